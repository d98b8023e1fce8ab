import Derived.Test.YtbmcfbemmjojlaaA3
set_option linter.all false
namespace Go.Abs.G
open Go.Proofs
attribute [local simp] I.vc sub merge place
set_option linter.unusedVariables false

theorem width_pos (s : ByteArray) (pos : Nat) : 1 ≤ (Utf8.decode s pos).2 := by
  unfold Utf8.decode
  simp only
  repeat' split
  all_goals simp

theorem nameFrom_step (s : ByteArray) (f pos : Nat) (h : pos < s.size) : nameFrom s (f + 1) pos = if !letterB (Utf8.decode s pos).1 && (decide (pos = 0) || decide ((Utf8.decode s pos).1 < 48) || decide (57 < (Utf8.decode s pos).1)) then false else nameFrom s f (pos + (Utf8.decode s pos).2) := by
  rw [nameFrom, if_pos h]

theorem nameFrom_end (s : ByteArray) (f pos : Nat) (h : ¬ pos < s.size) : nameFrom s f pos = true := by
  cases f with
  | zero => rfl
  | succ f => rw [nameFrom, if_neg h]

def sitLeft : Heap → Nat
  | [.sit s pos] => s.size - pos
  | _ => 0
attribute [simp] sitLeft

theorem name_spec (s : ByteArray) (hs : s.size ≤ maxLen) : Pf Try.prog model_isName.id [.str s] (.bool (nameB s)) := by
  have hm : (maxLen : Int) ≤ 9223372036854775807 := by decide
  refine DC.of model_isName.ok (by simp) ?_
  simp [model_isName.ir, model_isName.rs]
  refine WI.mono (Q := fun e st => (e = .exit 0 ∧ gt st.sl 0 = .str s ∧ nameFrom s (s.size + 1) 0 = true) ∨ (e = .ret ∧ gt st.sl 2 = .bool false ∧ nameFrom s (s.size + 1) 0 = false)) (WI.loop 1 (by simp) (fun st => ∃ pos f, gt st.sl 0 = .str s ∧ gt st.sl 7 = .ptr 0 0 0 0 ∧ st.hp = [.sit s pos] ∧ s.size < f + pos ∧ nameFrom s (s.size + 1) 0 = nameFrom s f pos) (fun st => sitLeft st.hp) ?_ ?_) ?_
  · exact ⟨0, s.size + 1, by simp⟩
  · rintro ⟨sl, hp, bs⟩ ⟨pos, f, h0, h7, rfl, hf, he⟩
    by_cases hp : pos < s.size
    · obtain ⟨f, rfl⟩ : ∃ g, f = g + 1 := ⟨f - 1, by omega⟩
      have hw := width_pos s pos
      rw [nameFrom_step s f pos hp] at he
      have hnm : pos = 0 ∨ 0 < pos := by omega
      generalize hd : Utf8.decode s pos = d at he hw
      obtain ⟨r, wd⟩ := d
      simp only at he hw
      unfold model_isName.b0
      refine vc_cut (fun st => gt st.sl 0 = .str s ∧ gt st.sl 7 = .ptr 0 0 0 0 ∧ gt st.sl 8 = .tup [.bool true, V.i pos, .int .i32 r] ∧ gt st.sl 9 = .bool true ∧ st.hp = [.sit s (pos + wd)]) (by simp [h0, h7, hp, hd]) ?_
      rintro ⟨sl, _, bs⟩ ⟨h0, h7, h8, h9, rfl⟩
      refine vc_cut (fun st => gt st.sl 0 = .str s ∧ gt st.sl 7 = .ptr 0 0 0 0 ∧ gt st.sl 8 = .tup [.bool true, V.i pos, .int .i32 r] ∧ st.hp = [.sit s (pos + wd)]) (by simp [h0, h7, h8, h9]) ?_
      rintro ⟨sl, _, bs⟩ ⟨h0, h7, h8, rfl⟩
      refine vc_block_of (vc_cut (fun st => gt st.sl 0 = .str s ∧ gt st.sl 7 = .ptr 0 0 0 0 ∧ gt st.sl 3 = V.i pos ∧ gt st.sl 4 = .int .i32 r ∧ st.hp = [.sit s (pos + wd)]) (by simp [h0, h7, h8]) ?_)
      rintro ⟨sl, _, bs⟩ ⟨h0, h7, h3, h4, rfl⟩
      refine vc_cut (fun st => gt st.sl 0 = .str s ∧ gt st.sl 7 = .ptr 0 0 0 0 ∧ gt st.sl 3 = V.i pos ∧ gt st.sl 4 = .int .i32 r ∧ gt st.sl 5 = .bool (letterB r) ∧ st.hp = [.sit s (pos + wd)]) ?_ ?_
      · unfold letterB
        have i1 : ((97 : Int) ≤ (r : Int)) = (97 ≤ r) := by apply propext; omega
        have i2 : ((r : Int) ≤ 122) = (r ≤ 122) := by apply propext; omega
        have i3 : ((65 : Int) ≤ (r : Int)) = (65 ≤ r) := by apply propext; omega
        have i4 : ((r : Int) ≤ 90) = (r ≤ 90) := by apply propext; omega
        have i5 : ((r : Int) == 95) = decide (r = 95) := by rw [Bool.eq_iff_iff]; simp; omega
        by_cases a1 : 97 ≤ r <;> by_cases a2 : r ≤ 122 <;> by_cases a3 : 65 ≤ r <;> by_cases a4 : r ≤ 90 <;> first | (exfalso; omega) | simp [h0, h7, h3, h4, i1, i2, i3, i4, i5, a1, a2, a3, a4]
      rintro ⟨sl, _, bs⟩ ⟨h0, h7, h3, h4, h5, rfl⟩
      refine vc_cut (fun st => gt st.sl 0 = .str s ∧ gt st.sl 7 = .ptr 0 0 0 0 ∧ gt st.sl 43 = .bool (!letterB r && (decide (pos = 0) || decide (r < 48) || decide (57 < r))) ∧ st.hp = [.sit s (pos + wd)]) ?_ ?_
      · have i1 : ((r : Int) < 48) = (r < 48) := by apply propext; omega
        have i2 : ((57 : Int) < (r : Int)) = (57 < r) := by apply propext; omega
        have i3 : ((pos : Int) = 0) = (pos = 0) := by apply propext; omega
        cases hl : letterB r <;> rw [hl] at h5 <;> by_cases a1 : pos = 0 <;> by_cases a2 : r < 48 <;> simp [h0, h7, h3, h4, h5, i1, i2, i3, a1, a2]
      rintro ⟨sl, _, bs⟩ ⟨h0, h7, h43, rfl⟩
      cases hb : (!letterB r && (decide (pos = 0) || decide (r < 48) || decide (57 < r)))
      · rw [hb] at h43 he
        simp [h0, h7, h43]
        exact ⟨⟨f, by omega, by simpa using he⟩, by omega⟩
      · rw [hb] at h43 he
        simp [h0, h7, h43]
        simpa using he
    · rw [nameFrom_end s f pos hp] at he
      simp [model_isName.b0, h0, h7, hp, he]
  · rintro e ⟨sl, hp, bs⟩ (⟨rfl, h0, he⟩ | ⟨rfl, h2, he⟩)
    · by_cases h1 : 1 ≤ s.size
      · have h1' : (1 : Int) ≤ s.size := by omega
        simp [h0, nameB, he, h1, h1']
        omega
      · have h1' : ¬ (1 : Int) ≤ s.size := by omega
        simp [h0, nameB, he, h1, h1']
    · simp [h2, nameB, he]

theorem goal_spec (m : Model) (hl : m.goal.length ≤ maxLen) : Pf Try.prog model_goal.id [.agg m.cells] (V.i (goalB m)) := by
  refine DC.of model_goal.ok (by simp) ?_
  simp [model_goal.ir, model_goal.rs, Model.cells, vVars, vCons, vTerms]
  refine (terms_spec m.goal m.vars.length hl).use ?_
  simp
  by_cases h0 : m.goal = []
  · cases hg : m.hasGoal
    · simp [h0, goalB, hg]
      refine (counts_spec false 0).use ?_
      cases countsB false 0 <;> simp
      simp [badVarB, badCoefB]
    · simp [h0, goalB, hg]
      refine (counts_spec true 0).use ?_
      cases hc : countsB true 0 <;> simp
      all_goals (simp [countsB] at hc)
  · have h1 : 0 < m.goal.length := List.length_pos_iff.2 h0
    have h0' : (0 : Int) < m.goal.length := by omega
    cases hg : m.hasGoal
    · simp [h0, goalB, hg]
    · simp [h0, goalB, hg]
      refine (counts_spec true m.goal.length).use ?_
      cases countsB true m.goal.length <;> simp
      cases badVarB m.vars.length m.goal <;> simp

theorem variable_spec (l : List Var) (i : Nat) (h : i < l.length) (hl : l.length ≤ maxLen) (hv : okVar l[i]) : Pf Try.prog model_variable.id [vVars l, V.i i] (V.i (varB l i l[i])) := by
  have hm : (maxLen : Int) ≤ 9223372036854775807 := by decide
  refine DC.of model_variable.ok (by simp) ?_
  unfold model_variable.ir
  refine vc_cut (fun s => gt s.sl 0 = vVars l ∧ gt s.sl 1 = V.i i ∧ s.hp = []) (by simp) ?_
  rintro ⟨sl, hp, bs⟩ ⟨h0, h1, rfl⟩
  refine vc_cut (fun s => gt s.sl 0 = vVars l ∧ gt s.sl 1 = V.i i ∧ gt s.sl 5 = .ptr 0 1 0 0 ∧ s.hp = [.mem false [] [l[i].cells]]) (by simp [h0, h1, vVars, h, Var.cells]) ?_
  rintro ⟨sl, hp, bs⟩ ⟨h0, h1, h5, rfl⟩
  generalize hv' : l[i] = v at *
  obtain ⟨hv1, _, _⟩ := hv
  have hi : (i : Int) ≤ l.length := by omega
  have htk : List.take i (List.map Var.cells l) = List.map Var.cells (l.take i) := List.map_take.symm
  refine vc_cut (fun s => gt s.sl 5 = .ptr 0 1 0 0 ∧ s.hp = [.mem false [] [v.cells]] ∧ nameB v.name = true ∧ ((l.take i).any fun w => decide (w.name = v.name)) = false) ?_ ?_
  · simp [h0, h1, h5, Var.cells]
    refine (name_spec v.name hv1).use ?_
    cases hn : nameB v.name
    · simp [varB, hn, model_variable.rs]
    simp [h0, h1, h5, Var.cells, vVars, hi]
    rw [htk]
    refine DP.mono (contains_var_spec (p := fun w => decide (w.name = v.name)) (cap := [.ref v.cells 0]) (l := l.take i) (by simp) (by simp) (fun t _ => variable1_spec t v) (by simp; omega)) fun r hr => ?_
    subst hr
    cases ha : ((l.take i).any fun w => decide (w.name = v.name))
    · simp [ha, Var.cells]
      simpa using ha
    · simp [varB, hn, ha, model_variable.rs]
  rintro ⟨sl, hp, bs⟩ ⟨h5, rfl, b1, b2⟩
  have hb : varB l i v = if !withinB v.lo 1000000000 || !withinB v.hi 1000000000 || decide (v.hi < v.lo) || decide (64 ≤ v.hi - v.lo) then 42 else 0 := by
    unfold varB; rw [b1, b2]; rfl
  rw [hb]
  refine vc_cut (fun s => (!withinB v.lo 1000000000 || !withinB v.hi 1000000000 || decide (v.hi < v.lo) || decide (64 ≤ v.hi - v.lo)) = false) ?_ ?_
  · simp [h5, Var.cells]
    refine (within_spec v.lo 1000000000 (by decide) (by decide)).use ?_
    cases w1 : withinB v.lo 1000000000
    · simp [model_variable.rs]
    simp [h5, Var.cells]
    refine (within_spec v.hi 1000000000 (by decide) (by decide)).use ?_
    cases w2 : withinB v.hi 1000000000
    · simp [model_variable.rs]
    unfold withinB at w1 w2
    simp at w1 w2
    have hw : IntKind.i64.wrap (v.hi - v.lo) = v.hi - v.lo := by rw [wrap64] <;> omega
    by_cases hlt : v.hi < v.lo
    · simp [hlt, Int.not_le.2 hlt, model_variable.rs, Var.cells]
    · by_cases hge : 64 ≤ v.hi - v.lo <;> simp [hlt, hw, hge, model_variable.rs, Var.cells] <;> omega
  · rintro ⟨sl, hp, bs⟩ hb
    rw [hb]
    simp [model_variable.rs]
end Go.Abs.G



namespace Go.Abs.G
open Go.Proofs
attribute [local simp] I.vc sub merge place
set_option linter.unusedVariables false
set_option linter.unusedSimpArgs false

theorem firstBad_drop {α : Type} (f : Nat → α → Int) {l : List α} {i : Nat} (h : i < l.length) : firstBad f i (l.drop i) = if f i l[i] = 0 then firstBad f (i + 1) (l.drop (i + 1)) else some (i, f i l[i]) := by
  rw [List.drop_eq_getElem_cons h]; rfl

theorem check_spec (m : Model) (hm' : okModel m) : Pf Try.prog model_Check.id [.agg m.cells] (.tup [V.i (checkB m).1, V.i (checkB m).2]) := by
  have hm : (maxLen : Int) ≤ 9223372036854775807 := by decide
  obtain ⟨⟨hv, hv'⟩, ⟨hc, hc'⟩, hg, _⟩ := hm'
  refine DC.of model_Check.ok (by simp) ?_
  unfold model_Check.ir
  refine vc_cut (fun s => gt s.sl 1 = .ptr 0 1 0 0 ∧ s.hp = [.mem false [] [m.cells]]) (by simp [Model.cells, vVars, vCons, vTerms]) ?_
  rintro ⟨sl, hp, bs⟩ ⟨h1, rfl⟩
  refine vc_cut (fun s => gt s.sl 1 = .ptr 0 1 0 0 ∧ s.hp = [.mem false [] [m.cells]] ∧ ¬ (m.vars.length = 0 ∨ 32 < m.vars.length)) ?_ ?_
  · by_cases l0 : m.vars = []
    · simp [h1, Model.cells, vVars, vCons, vTerms, l0, checkB, model_Check.rs]
    · have l0' : ¬ m.vars.length = 0 := by simpa using l0
      have l0'' : ¬ (m.vars.length : Int) = 0 := by omega
      by_cases l1 : 32 < m.vars.length
      · have l1' : (32 : Int) < m.vars.length := by omega
        simp [h1, Model.cells, vVars, vCons, vTerms, l0, l1, l1', checkB, model_Check.rs]
      · have l1' : ¬ (32 : Int) < m.vars.length := by omega
        simp [h1, Model.cells, vVars, vCons, vTerms, l0, l1, l1']
  rintro ⟨sl, hp, bs⟩ ⟨h1, rfl, hn⟩
  refine vc_cut (fun s => gt s.sl 1 = .ptr 0 1 0 0 ∧ s.hp = [.mem false [] [m.cells]] ∧ firstBad (varB m.vars) 0 m.vars = none) ?_ ?_
  · simp [h1, Model.cells, vVars, vCons, vTerms]
    refine WI.mono (Q := fun e s => (e = .exit 0 ∧ gt s.sl 1 = .ptr 0 1 0 0 ∧ s.hp = [.mem false [] [m.cells]] ∧ firstBad (varB m.vars) 0 m.vars = none) ∨ (e = .ret ∧ ∃ (i : Nat) (r : Int), firstBad (varB m.vars) 0 m.vars = some (i, r) ∧ gt s.sl 2 = V.i i ∧ gt s.sl 3 = V.i r)) (WI.loop 1 (by simp) (fun s => ∃ i, i ≤ m.vars.length ∧ gt s.sl 1 = .ptr 0 1 0 0 ∧ gt s.sl 22 = V.i m.vars.length ∧ gt s.sl 23 = V.i i ∧ s.hp = [.mem false [] [m.cells]] ∧ firstBad (varB m.vars) 0 m.vars = firstBad (varB m.vars) i (m.vars.drop i)) (fun s => (m.vars.length - (gt s.sl 23).num).toNat) ?_ ?_) ?_
    · exact ⟨0, by simp [h1, Model.cells, vVars, vCons, vTerms]⟩
    · rintro ⟨sl, hp, bs⟩ ⟨i, hi, h1, h22, h23, rfl, he⟩
      by_cases hil : i < m.vars.length
      · simp [model_Check.b0, h1, h22, h23, hil, Model.cells, vVars, vCons, vTerms]
        refine (variable_spec m.vars i hil hv (hv' _ (List.getElem_mem hil))).use ?_
        rw [firstBad_drop _ hil] at he
        have hw : IntKind.i64.wrap ((i : Int) + 1) = ((i + 1 : Nat) : Int) := by rw [wrap64] <;> omega
        by_cases hb : varB m.vars i m.vars[i] = 0
        · rw [if_pos hb] at he
          simp [hb, hw, Model.cells, vVars, vCons, vTerms]
          exact ⟨⟨i + 1, by omega, by omega, he⟩, by omega⟩
        · rw [if_neg hb] at he
          simp [hb, he]
      · obtain rfl : i = m.vars.length := by omega
        rw [List.drop_length] at he
        simp [model_Check.b0, h1, h22, h23, he, firstBad]
    · rintro e ⟨sl, hp, bs⟩ (⟨rfl, h1, rfl, he⟩ | ⟨rfl, i, r, he, h2, h3⟩)
      · simp [h1, he, Model.cells, vVars, vCons, vTerms]
      · have hC : checkB m = ((i : Int), r) := by unfold checkB; rw [if_neg hn, he]
        simp [h2, h3, hC, model_Check.rs]
  rintro ⟨sl, hp, bs⟩ ⟨h1, rfl, he1⟩
  refine vc_cut (fun s => gt s.sl 1 = .ptr 0 1 0 0 ∧ s.hp = [.mem false [] [m.cells]] ∧ ¬ 64 < m.cons.length) ?_ ?_
  · by_cases l1 : 64 < m.cons.length
    · have l1' : (64 : Int) < m.cons.length := by omega
      have hC : checkB m = ((m.vars.length : Int), 49) := by unfold checkB; rw [if_neg hn, he1]; simp only; rw [if_pos l1]
      simp [h1, Model.cells, vVars, vCons, vTerms, l1', hC, model_Check.rs]
    · have l1' : ¬ (64 : Int) < m.cons.length := by omega
      simp [h1, Model.cells, vVars, vCons, vTerms, l1, l1']
  rintro ⟨sl, hp, bs⟩ ⟨h1, rfl, hn2⟩
  refine vc_cut (fun s => gt s.sl 1 = .ptr 0 1 0 0 ∧ s.hp = [.mem false [] [m.cells]] ∧ firstBad (fun _ c => conB c m.vars.length) 0 m.cons = none) ?_ ?_
  · simp [h1, Model.cells, vVars, vCons, vTerms]
    refine WI.mono (Q := fun e s => (e = .exit 2 ∧ gt s.sl 1 = .ptr 0 1 0 0 ∧ s.hp = [.mem false [] [m.cells]] ∧ firstBad (fun _ c => conB c m.vars.length) 0 m.cons = none) ∨ (e = .ret ∧ ∃ (i : Nat) (r : Int), firstBad (fun _ c => conB c m.vars.length) 0 m.cons = some (i, r) ∧ gt s.sl 2 = V.i (m.vars.length + i) ∧ gt s.sl 3 = V.i r)) (WI.loop 1 (by simp) (fun s => ∃ i, i ≤ m.cons.length ∧ gt s.sl 1 = .ptr 0 1 0 0 ∧ gt s.sl 43 = vCons m.cons ∧ gt s.sl 44 = V.i m.cons.length ∧ gt s.sl 45 = V.i i ∧ s.hp = [.mem false [] [m.cells]] ∧ firstBad (fun _ c => conB c m.vars.length) 0 m.cons = firstBad (fun _ c => conB c m.vars.length) i (m.cons.drop i)) (fun s => (m.cons.length - (gt s.sl 45).num).toNat) ?_ ?_) ?_
    · exact ⟨0, by simp [h1, Model.cells, vVars, vCons, vTerms]⟩
    · rintro ⟨sl, hp, bs⟩ ⟨i, hi, h1, h43, h22, h23, rfl, he⟩
      by_cases hil : i < m.cons.length
      · simp [model_Check.b1, h1, h43, h22, h23, hil, Model.cells, vVars, vCons, vTerms, Con.cells, vInts, vIntss]
        refine (con_spec m.cons[i] m.vars.length (hc' _ (List.getElem_mem hil))).use ?_
        rw [firstBad_drop _ hil] at he
        have hw : IntKind.i64.wrap ((i : Int) + 1) = ((i + 1 : Nat) : Int) := by rw [wrap64] <;> omega
        have hw2 : IntKind.i64.wrap ((m.vars.length : Int) + i) = m.vars.length + i := by rw [wrap64] <;> omega
        by_cases hb : conB m.cons[i] m.vars.length = 0
        · rw [if_pos hb] at he
          simp [hb, hw, Model.cells, vVars, vCons, vTerms]
          exact ⟨⟨i + 1, by omega, by omega, he⟩, by omega⟩
        · rw [if_neg hb] at he
          simp [hb, he, hw2]
      · obtain rfl : i = m.cons.length := by omega
        rw [List.drop_length] at he
        simp [model_Check.b1, h1, h22, h23, he, firstBad]
    · rintro e ⟨sl, hp, bs⟩ (⟨rfl, h1, rfl, he⟩ | ⟨rfl, i, r, he, h2, h3⟩)
      · simp [h1, he, Model.cells, vVars, vCons, vTerms]
      · have hC : checkB m = ((m.vars.length : Int) + i, r) := by unfold checkB; rw [if_neg hn, he1]; simp only; rw [if_neg hn2, he]
        simp [h2, h3, hC, model_Check.rs]
  rintro ⟨sl, hp, bs⟩ ⟨h1, rfl, he2⟩
  simp [h1, Model.cells, vVars, vCons, vTerms]
  refine (goal_spec m hg).use ?_
  have hw2 : IntKind.i64.wrap ((m.vars.length : Int) + m.cons.length) = m.vars.length + m.cons.length := by rw [wrap64] <;> omega
  by_cases hb : goalB m = 0
  · have hC : checkB m = (0, 0) := by unfold checkB; rw [if_neg hn, he1]; simp only; rw [if_neg hn2, he2]; simp [hb]
    simp [hb, hC, model_Check.rs]
  · have hC : checkB m = ((m.vars.length : Int) + m.cons.length, goalB m) := by unfold checkB; rw [if_neg hn, he1]; simp only; rw [if_neg hn2, he2]; simp [hb]
    simp [hb, hC, hw2, model_Check.rs]

end Go.Abs.G



namespace Go.Abs.G
open Go.Proofs
set_option linter.unusedVariables false
set_option linter.unusedSimpArgs false
attribute [local simp] I.vc sub merge place

def Dom.add (d : Dom) (k : Nat) : Dom := if k < 32 then { d with a := sett d.a k } else { d with b := sett d.b (k - 32) }
def fillTo (d : Dom) : Nat → Dom
  | 0 => d
  | n + 1 => (fillTo d n).add n
theorem add_width (d : Dom) (k : Nat) : (d.add k).width = d.width := by unfold Dom.add; split <;> rfl
theorem add_ok {d : Dom} (k : Nat) (h : d.ok) : (d.add k).ok := by
  unfold Dom.add; split
  · exact ⟨h.f, h.w, sett_lt _ _, h.b⟩
  · exact ⟨h.f, h.w, h.a, sett_lt _ _⟩
theorem fillTo_ok {d : Dom} (h : d.ok) : ∀ n, (fillTo d n).ok
  | 0 => h
  | n + 1 => add_ok _ (fillTo_ok h n)
theorem fillTo_width (d : Dom) : ∀ n, (fillTo d n).width = d.width
  | 0 => rfl
  | n + 1 => by simp [fillTo, add_width, fillTo_width d n]
def dom0 (v : Var) : Dom := ⟨v.lo, (v.hi - v.lo + 1).toNat, 0, 0⟩
def domOf (v : Var) : Dom := fillTo (dom0 v) (dom0 v).width
theorem dom0_ok {v : Var} (h : VarOk v) : (dom0 v).ok := by
  obtain ⟨h1, h2, h3, h4⟩ := h
  exact ⟨by simp [dom0]; omega, by simp [dom0]; omega, by simp [dom0], by simp [dom0]⟩
theorem add_row (d : Dom) (k : Nat) (hk : k < 64) : (if k < 32 then [V.i d.from', V.i d.width, V.w (sett d.a k), V.w d.b] else [V.i d.from', V.i d.width, V.w d.a, V.w (sett d.b (k - 32))]) = (d.add k).row := by
  unfold Dom.add; split <;> rfl

def newH (B : O) (s : List Dom) : Heap := [B, .mem false [2, 3] [[.own 2 4 0 s.length s.length, .own 3 1 0 0 0]], .mem false [] (s.map Dom.row), .tree [] []]
def domsOf (m : Model) : List Dom := if (checkB m).2 = 0 then m.vars.map domOf else []

@[simp] theorem vVars_ids (l : List Var) : (vVars l).ids = [] := rfl
@[simp] theorem lim_vVars (n : Nat) (l : List Var) : lim n (vVars l) = vVars l := rfl

theorem new_spec (m : Model) (hm : okModel m) : DC Try.prog dom_New.id [.agg m.cells] [] (fun r H => r = .ptr 1 1 0 0 ∧ ∃ B, H = newH B (domsOf m)) := by
  refine DC.trim (Q := fun r H => r = .ptr 1 1 0 0 ∧ ∃ E, H = newH (.mem false [] [m.cells]) (domsOf m) ++ E) ?_ ?_
  rotate_left
  · rintro r H ⟨rfl, E, rfl⟩
    exact ⟨4, by simp, by simp [V.ids], rfl, .mem false [] [m.cells], rfl⟩
  have hc := check_spec m hm
  refine DC.of dom_New.ok (by simp) ?_
  unfold dom_New.ir
  refine vc_cut (fun st => gt st.sl 1 = .ptr 0 1 0 0 ∧ st.hp = [.mem false [] [m.cells]]) (by simp [Model.cells, vVars, vCons, vTerms]) ?_
  rintro ⟨sl, hp, bs⟩ ⟨h1, rfl⟩
  refine vc_cut (fun st => gt st.sl 1 = .ptr 0 1 0 0 ∧ gt st.sl 3 = .ptr 1 1 0 0 ∧ st.hp = [.mem false [] [m.cells], .mem false [] [[nilS, nilS]]]) (by simp [h1]) ?_
  clear h1
  rintro ⟨sl, hp, bs⟩ ⟨h1, h3, rfl⟩
  refine vc_cut (fun st => (checkB m).2 = 0 ∧ gt st.sl 1 = .ptr 0 1 0 0 ∧ gt st.sl 3 = .ptr 1 1 0 0 ∧ st.hp = [.mem false [] [m.cells], .mem false [] [[nilS, nilS]]]) ?_ ?_
  · have hcl : m.cells.length = 4 := rfl
    have htk : m.cells.take 4 = m.cells := rfl
    simp [h1, h3, hcl, htk]
    refine ⟨rfl, hc.use ?_⟩
    by_cases hz : (checkB m).2 = 0
    · simp [hz]
    · simp [hz]
      refine ⟨_, Weak.nil2 (id := 1) (e1 := 4) (e2 := 1) (t := 3) rfl (by simp), ?_⟩
      simp [dom_New.rs, newH, domsOf, hz]
      skip
  clear h1 h3
  rintro ⟨sl, hp, bs⟩ ⟨hz, h1, h3, rfl⟩
  have hR : Right m := right_iff.1 (by simp [rightB, hz])
  have hD : domsOf m = m.vars.map domOf := by simp [domsOf, hz]
  rw [hD]
  refine vc_cut (fun st => gt st.sl 3 = .ptr 1 1 0 0 ∧ st.hp = newH (.mem false [] [m.cells]) (m.vars.map domOf)) ?_ ?_
  · refine vc_cut (fun st => gt st.sl 3 = .ptr 1 1 0 0 ∧ gt st.sl 21 = vVars m.vars ∧ gt st.sl 22 = V.i m.vars.length ∧ gt st.sl 23 = V.i 0 ∧ st.hp = newH (.mem false [] [m.cells]) []) ?_ ?_
    · 
      simp [h1, h3]
      refine ⟨_, Weak.nil2 (id := 1) (e1 := 4) (e2 := 1) (t := 3) rfl (by simp [h3]), ?_⟩
      simp [newH, Model.cells, vVars, h1, h3]
    clear h1 h3
    rintro ⟨sl, hp, bs⟩ ⟨h3, h21, h22, h23, rfl⟩
    simp [h3, h21, h22, h23]
    refine WI.mono (Q := fun e st => e = .exit 0 ∧ gt st.sl 3 = .ptr 1 1 0 0 ∧ st.hp = newH (.mem false [] [m.cells]) (m.vars.map domOf))
      (WI.loop 4 (by simp [newH]) (fun st => ∃ j, j ≤ m.vars.length ∧ gt st.sl 3 = .ptr 1 1 0 0 ∧ gt st.sl 21 = vVars m.vars ∧ gt st.sl 22 = V.i m.vars.length ∧ gt st.sl 23 = V.i j ∧ st.hp = newH (.mem false [] [m.cells]) ((m.vars.take j).map domOf)) (fun st => (m.vars.length - (gt st.sl 23).num).toNat) ?_ ?_) ?_
    · exact ⟨0, by simp [h3, h21, h22, h23]⟩
    · clear h3 h21 h22 h23
      rintro ⟨sl, hp, bs⟩ ⟨j, hj, h3, h21, h22, h23, rfl⟩
      by_cases hjl : j < m.vars.length
      · have hvo := VarOk.of (hR.var j _ (List.getElem?_eq_getElem hjl))
        have hnv := hR.nv
        obtain ⟨v, hv⟩ : ∃ v, v = m.vars[j] := ⟨_, rfl⟩
        rw [← hv] at hvo
        have hw : IntKind.i64.wrap ((j : Int) + 1) = ((j + 1 : Nat) : Int) := by rw [wrap64] <;> omega
        obtain ⟨L, hL⟩ : ∃ L, L = (m.vars.take j).map domOf := ⟨_, rfl⟩
        have hLl : L.length = j := by rw [hL, List.length_map, List.length_take]; omega
        have hT : (m.vars.take (j + 1)).map domOf = L ++ [domOf v] := by
          rw [List.take_succ_eq_append_getElem hjl, List.map_append, ← hL, ← hv]; rfl
        rw [← hL]
        have hμ := h23
        unfold dom_New.b0
        refine vc_cut (fun st => gt st.sl 3 = .ptr 1 1 0 0 ∧ gt st.sl 21 = vVars m.vars ∧ gt st.sl 22 = V.i m.vars.length ∧ gt st.sl 23 = V.i j ∧ gt st.sl 24 = .bool true ∧ st.hp = newH (.mem false [] [m.cells]) L) (by simp [h3, h21, h22, h23, hjl]) ?_
        clear h3 h21 h22 h23
        rintro ⟨sl, hp, bs⟩ ⟨h3, h21, h22, h23, h24, rfl⟩
        refine vc_cut (fun st => gt st.sl 3 = .ptr 1 1 0 0 ∧ gt st.sl 21 = vVars m.vars ∧ gt st.sl 22 = V.i m.vars.length ∧ gt st.sl 23 = V.i j ∧ st.hp = newH (.mem false [] [m.cells]) L) (by simp [h3, h21, h22, h23, h24]) ?_
        clear h3 h21 h22 h23 h24
        rintro ⟨sl, hp, bs⟩ ⟨h3, h21, h22, h23, rfl⟩
        have hvl : v.cells.length = 3 := rfl
        have f1 := hvo.lo
        have f2 := hvo.hi
        have f3 := hvo.le
        have f4 := hvo.dom
        have hok := dom0_ok hvo
        have hw1 : IntKind.i64.wrap (v.hi - v.lo) = v.hi - v.lo := by rw [wrap64] <;> omega
        have hw2 : IntKind.i64.wrap (v.hi - v.lo + 1) = v.hi - v.lo + 1 := by rw [wrap64] <;> omega
        have hwd : ((dom0 v).width : Int) = v.hi - v.lo + 1 := by simp [dom0]; omega
        have hr0 : (dom0 v).row = [V.i v.lo, V.i (v.hi - v.lo + 1), V.w 0, V.w 0] := by rw [← hwd]; rfl
        refine vc_cut (fun st => gt st.sl 3 = .ptr 1 1 0 0 ∧ gt st.sl 21 = vVars m.vars ∧ gt st.sl 22 = V.i m.vars.length ∧ gt st.sl 23 = V.i j ∧ ∃ E, st.hp = newH (.mem false [] [m.cells]) (L ++ [domOf v]) ++ E) ?_ ?_
        · refine vc_cut (fun st => gt st.sl 3 = .ptr 1 1 0 0 ∧ gt st.sl 7 = .ptr 4 1 0 0 ∧ gt st.sl 21 = vVars m.vars ∧ gt st.sl 22 = V.i m.vars.length ∧ gt st.sl 23 = V.i j ∧ st.hp = newH (.mem false [] [m.cells]) L ++ [.mem false [] [v.cells]]) ?_ ?_
          · simp [h3, h21, h22, h23, hjl, vVars, newH, ← hv, Var.cells]
          clear h3 h21 h22 h23
          rintro ⟨sl, hp, bs⟩ ⟨h3, h7, h21, h22, h23, rfl⟩
          refine vc_cut (fun st => gt st.sl 3 = .ptr 1 1 0 0 ∧ gt st.sl 8 = .ptr 5 1 0 0 ∧ gt st.sl 21 = vVars m.vars ∧ gt st.sl 22 = V.i m.vars.length ∧ gt st.sl 23 = V.i j ∧ st.hp = newH (.mem false [] [m.cells]) L ++ [.mem false [] [v.cells], .mem false [] [(dom0 v).row]]) ?_ ?_
          · simp [h3, h7, h21, h22, h23, newH, Var.cells, hw1, hw2, hr0]
          clear h3 h7 h21 h22 h23
          rintro ⟨sl, hp, bs⟩ ⟨h3, h8, h21, h22, h23, rfl⟩
          refine vc_cut (fun st => gt st.sl 3 = .ptr 1 1 0 0 ∧ gt st.sl 8 = .ptr 5 1 0 0 ∧ gt st.sl 21 = vVars m.vars ∧ gt st.sl 22 = V.i m.vars.length ∧ gt st.sl 23 = V.i j ∧ st.hp = newH (.mem false [] [m.cells]) L ++ [.mem false [] [v.cells], .mem false [] [(domOf v).row]]) ?_ ?_
          · obtain ⟨D, hDD⟩ : ∃ D, D = dom0 v := ⟨_, rfl⟩
            have hdo : domOf v = fillTo D D.width := by rw [hDD]; rfl
            rw [hdo, ← hDD]
            rw [← hDD] at hok
            have hwl := hok.w
            simp [h3, h8, h21, h22, h23, newH]
            refine WI.mono (Q := fun e st => e = .exit 2 ∧ gt st.sl 3 = .ptr 1 1 0 0 ∧ gt st.sl 8 = .ptr 5 1 0 0 ∧ gt st.sl 21 = vVars m.vars ∧ gt st.sl 22 = V.i m.vars.length ∧ gt st.sl 23 = V.i j ∧ st.hp = newH (.mem false [] [m.cells]) L ++ [.mem false [] [v.cells], .mem false [] [(fillTo D D.width).row]])
              (WI.loop 6 (by simp) (fun st => ∃ i, i ≤ D.width ∧ gt st.sl 3 = .ptr 1 1 0 0 ∧ gt st.sl 8 = .ptr 5 1 0 0 ∧ gt st.sl 21 = vVars m.vars ∧ gt st.sl 22 = V.i m.vars.length ∧ gt st.sl 23 = V.i j ∧ gt st.sl 37 = V.i D.width ∧ gt st.sl 38 = V.i i ∧ st.hp = newH (.mem false [] [m.cells]) L ++ [.mem false [] [v.cells], .mem false [] [(fillTo D i).row]]) (fun st => (D.width - (gt st.sl 38).num).toNat) ?_ ?_) ?_
            · exact ⟨0, by simp [h3, h8, h21, h22, h23, newH, fillTo]⟩
            · clear h3 h8 h21 h22 h23
              rintro ⟨sl, hp, bs⟩ ⟨i, hi, h3, h8, h21, h22, h23, h37, h38, rfl⟩
              by_cases hil : i < D.width
              · have hwi : IntKind.i64.wrap ((i : Int) + 1) = ((i + 1 : Nat) : Int) := by rw [wrap64] <;> omega
                have ht : ((i : Int).tmod 32) = ((i % 32 : Nat) : Int) := by rw [Int.tmod_eq_emod_of_nonneg (by omega)]; rfl
                have hm' : ((i : Int) % 32).toNat = i % 32 := by omega
                have hp' : 0 ≤ (i : Int) % 32 := by omega
                have hadd := add_row (fillTo D i) i (by omega)
                have hsucc : fillTo D (i + 1) = (fillTo D i).add i := rfl
                by_cases h : i < 32
                · have h1 : IntKind.i64.wrap ((i : Int) / 32) = 0 := by rw [wrap64] <;> omega
                  have h2 : i % 32 = i := by omega
                  rw [if_pos h] at hadd
                  simp [dom_New.b1, newH, ht, hm', hp', h2, h3, h8, h21, h22, h23, h37, h38, hil, hwi, h1, h, bits32, limO, O.refs]
                  refine ⟨⟨i + 1, by omega, by omega, ?_⟩, by omega⟩
                  rw [hsucc, ← hadd]
                  exact congrArg (fun n => [V.i (fillTo D i).from', V.i (fillTo D i).width, V.a (.int .u32 n), V.w (fillTo D i).b]) (sett32 h)
                · have h1 : IntKind.i64.wrap ((i : Int) / 32) = 1 := by rw [wrap64] <;> omega
                  have h2 : i % 32 = i - 32 := by omega
                  have h3' : i - 32 < 32 := by omega
                  rw [if_neg h] at hadd
                  simp [dom_New.b1, newH, ht, hm', hp', h2, h3, h8, h21, h22, h23, h37, h38, hil, hwi, h1, h, bits32, limO, O.refs]
                  refine ⟨⟨i + 1, by omega, by omega, ?_⟩, by omega⟩
                  rw [hsucc, ← hadd]
                  exact congrArg (fun n => [V.i (fillTo D i).from', V.i (fillTo D i).width, V.w (fillTo D i).a, V.a (.int .u32 n)]) (sett32 h3')
              · obtain rfl : i = D.width := by omega
                simp [dom_New.b1, h3, h8, h21, h22, h23, h37, h38]
            · rintro e ⟨sl, hp, bs⟩ ⟨rfl, h3, h8, h21, h22, h23, rfl⟩
              simp [h3, h8, h21, h22, h23, newH]
          clear h3 h8 h21 h22 h23
          rintro ⟨sl, hp, bs⟩ ⟨h3, h8, h21, h22, h23, rfl⟩
          simp [h3, h8, h21, h22, h23, newH, hLl]
          omega
        clear h3 h21 h22 h23
        rintro ⟨sl, hp, bs⟩ ⟨h3, h21, h22, h23, E, rfl⟩
        simp [h3, h21, h22, h23, newH, hLl, hw, hμ, limO, O.refs]
        refine ⟨⟨j + 1, by omega, by omega, by omega, ?_⟩, by omega⟩
        rw [← List.map_take, ← List.map_map, hT]
        simp
      · obtain rfl : j = m.vars.length := by omega
        simp [dom_New.b0, h3, h21, h22, h23]
    · rintro e ⟨sl, hp, bs⟩ ⟨rfl, h3, rfl⟩
      simp [h3]
  clear h1 h3
  rintro ⟨sl, hp, bs⟩ ⟨h3, rfl⟩
  simp [h3, dom_New.rs]
end Go.Abs.G


namespace Go.Abs.G
open Go.Proofs
set_option linter.unusedVariables false
set_option linter.unusedSimpArgs false
attribute [local simp] I.vc

end Go.Abs.G


namespace Go.Abs.G
open Go.Proofs
set_option linter.unusedVariables false
set_option linter.unusedSimpArgs false
attribute [local simp] I.vc

theorem mT_len (ms : List (List Dom)) : (mT ms).length = ms.length := by simp [mT]

end Go.Abs.G


namespace Go.Abs.G
open Go.Proofs
set_option linter.unusedVariables false
set_option linter.unusedSimpArgs false
attribute [local simp] I.vc

end Go.Abs.G


namespace Go.Abs.G
open Go.Proofs
set_option linter.unusedVariables false
set_option linter.unusedSimpArgs false
attribute [local simp] I.vc

end Go.Abs.G


namespace Go.Abs.G
open Go.Proofs
set_option linter.unusedVariables false
set_option linter.unusedSimpArgs false
attribute [local simp] I.vc

end Go.Abs.G


namespace Go.Abs.G
open Go.Proofs
set_option linter.unusedVariables false
set_option linter.unusedSimpArgs false
attribute [local simp] I.vc

theorem domCe_ren (f : Nat → Nat) (L : List Dom) : Ce.renR f (L.map domCe) = L.map domCe := by
  induction L with
  | nil => rfl
  | cons d L ih =>
    have : Ce.renL f (domCe d) = domCe d := rfl
    simp [Ce.renR, this, ih]
theorem mT_ren (f : Nat → Nat) (ms : List (List Dom)) : Ce.renR f (mT ms) = mT ms := by
  induction ms with
  | nil => rfl
  | cons L ms ih =>
    have h : Ce.renR f (ms.map fun L => [Ce.n 4 (L.map domCe)]) = ms.map fun L => [Ce.n 4 (L.map domCe)] := ih
    simp [mT, Ce.renR, Ce.renL, Ce.ren, domCe_ren, h]
structure SOk (s : List Dom) (ms : List (List Dom)) : Prop where
  n : s.length ≤ 64
  k : ms.length ≤ 1000000
  d : ∀ d ∈ s, d.ok
theorem SOk.st {s : List Dom} {ms : List (List Dom)} (h : SOk s ms) : StOk s (mT ms) := ⟨h.n, by rw [mT_len]; exact h.k, h.d, fun f => mT_ren f ms⟩

section
variable {s : List Dom} {ms : List (List Dom)} (h : SOk s ms)
include h
theorem openP : DC Try.prog dom_Store_Open.id [.ptr 0 1 0 0] [St1 s (mT ms)] fun r H => r = vInts (openB s s.length) ∧ H = [St1 s (mT ms)] :=
  DC.packed (mT_ids ms) (mT_ids ms) (Q := fun r => r = vInts (openB s s.length)) (open_spec h.st) (by rintro r rfl; rfl)
theorem loP (x : Int) (hne : isB s x = true → valsB s x ≠ []) : DC Try.prog dom_Store_Lo.id [.ptr 0 1 0 0, V.i x] [St1 s (mT ms)] fun r H => r = V.i (if isB s x then (valsB s x).headD 0 else 0) ∧ H = [St1 s (mT ms)] :=
  DC.packed (mT_ids ms) (mT_ids ms) (Q := fun r => r = V.i (if isB s x then (valsB s x).headD 0 else 0)) (lo_spec h.st x hne) (by rintro r rfl; rfl)
theorem hiP (x : Int) (hne : isB s x = true → valsB s x ≠ []) : DC Try.prog dom_Store_Hi.id [.ptr 0 1 0 0, V.i x] [St1 s (mT ms)] fun r H => r = V.i (if isB s x then (valsB s x).getLastD 0 else 0) ∧ H = [St1 s (mT ms)] :=
  DC.packed (mT_ids ms) (mT_ids ms) (Q := fun r => r = V.i (if isB s x then (valsB s x).getLastD 0 else 0)) (hi_spec h.st x hne) (by rintro r rfl; rfl)
end
end Go.Abs.G


namespace Go.Abs.G
open Go.Proofs
set_option linter.unusedVariables false
set_option linter.unusedSimpArgs false
attribute [local simp] I.vc

theorem close_storeAt {w : World} {β : Nat → Hd} {F : Nat → Prop} {H : Heap} {s : List Dom} {T : List (List Ce)} {rf rb : List Nat} {p a b : Nat} (hk : HOK w.heap H β F)
    (h0 : H[p]? = some (.mem false rf [[.own a 4 0 s.length s.length, .own b 1 0 T.length T.length]])) (ha : H[a]? = some (.mem false [] (s.map Dom.row))) (hb : H[b]? = some (.tree rb T)) (hT : Ce.idsR T = [])
    (na : a ≠ p) (nb : b ≠ p) (nab : a ≠ b) (hlo : (β p).lo = 0) : ∃ β' H2, Adv F w H β w H2 β' ∧ H2[p]? = some (St1 s T) ∧ H2.length = H.length := by
  obtain ⟨β1, a1⟩ := adv_toTree hk h0 hlo
  generalize hP : O.tree rf (flatC [[.own a 4 0 s.length s.length, .own b 1 0 T.length T.length]]) = P at a1
  have p1 : (H.set p P)[p]? = some (.tree rf [[.v (.own a 4 0 s.length s.length), .v (.own b 1 0 T.length T.length)]]) := by rw [get_set h0, ← hP]; rfl
  have q1 : (H.set p P)[a]? = some (.mem false [] (s.map Dom.row)) := by rw [getElem?_set_ne' na]; exact ha
  have r1 : (H.set p P)[b]? = some (.tree rb T) := by rw [getElem?_set_ne' nb]; exact hb
  have la : (β1 a).lo = 0 := lo_of_tree (i := 0) (j := 0) a1.hok p1 rfl rfl (by unfold hdOf; rw [q1]; simp)
  have hl1 : (H.set p P).length = H.length := List.length_set
  generalize H.set p P = H1 at a1 p1 q1 r1 hl1
  obtain ⟨β2, a2⟩ := adv_toTree a1.hok q1 la
  rw [← domCe_flat] at a2
  have p2 : (H1.set a (.tree [] (s.map domCe)))[p]? = some (.tree rf [[.v (.own a 4 0 s.length s.length), .v (.own b 1 0 T.length T.length)]]) := by rw [getElem?_set_ne' (Ne.symm na)]; exact p1
  have q2 : (H1.set a (.tree [] (s.map domCe)))[a]? = some (.tree [] (s.map domCe)) := get_set q1
  have r2 : (H1.set a (.tree [] (s.map domCe)))[b]? = some (.tree rb T) := by rw [getElem?_set_ne' (Ne.symm nab)]; exact r1
  have hl2 : (H1.set a (.tree [] (s.map domCe))).length = H.length := by rw [List.length_set]; exact hl1
  generalize H1.set a (.tree [] (s.map domCe)) = H2 at a2 p2 q2 r2 hl2
  obtain ⟨β3, a3⟩ := adv_pack (i := 0) (j := 0) a2.hok p2 q2 (Ne.symm na) rfl rfl (by simp)
  generalize hP3 : O.tree (rf ++ []) _ = P3 at a3
  have p3 : ((H2.set a O.dead).set p P3)[p]? = some (.tree (rf ++ []) [[.n 4 (s.map domCe), .v (.own b 1 0 T.length T.length)]]) := by rw [get_set (x := _) (by rw [getElem?_set_ne' (Ne.symm na)]; exact p2), ← hP3]; rfl
  have r3 : ((H2.set a O.dead).set p P3)[b]? = some (.tree rb T) := by rw [getElem?_set_ne' nb, getElem?_set_ne' (Ne.symm nab)]; exact r2
  have hl3 : ((H2.set a O.dead).set p P3).length = H.length := by rw [List.length_set, List.length_set]; exact hl2
  generalize (H2.set a O.dead).set p P3 = H3 at a3 p3 r3 hl3
  obtain ⟨β4, a4⟩ := adv_pack (i := 0) (j := 1) a3.hok p3 r3 (Ne.symm nb) rfl rfl rfl
  generalize hP4 : O.tree (rf ++ [] ++ rb) _ = P4 at a4
  have p4 : ((H3.set b O.dead).set p P4)[p]? = some (.tree (rf ++ [] ++ rb) [[.n 4 (s.map domCe), .n 1 T]]) := by rw [get_set (x := _) (by rw [getElem?_set_ne' (Ne.symm nb)]; exact p3), ← hP4]; rfl
  have hl4 : ((H3.set b O.dead).set p P4).length = H.length := by rw [List.length_set, List.length_set]; exact hl3
  generalize (H3.set b O.dead).set p P4 = H4 at a4 p4 hl4
  obtain ⟨β5, a5⟩ := adv_refsT (refs' := []) a4.hok p4 (by simp [Ce.idsR, Ce.idsL, Ce.ids, domCe_ids, hT])
  exact ⟨β5, _, a1.trans (a2.trans (a3.trans (a4.trans a5))), get_set p4, by rw [List.length_set]; exact hl4⟩

theorem newP (m : Model) (hm : okModel m) : DC Try.prog dom_New.id [.agg m.cells] [] (fun r H => r = .ptr 1 1 0 0 ∧ ∃ B, H = [B, St1 (domsOf m) (mT [])]) := by
  refine DC.trim (Q := fun r H => r = .ptr 1 1 0 0 ∧ H[1]? = some (St1 (domsOf m) (mT []))) ?_ ?_
  rotate_left
  · rintro r H ⟨rfl, h2⟩
    refine ⟨2, by simp, by simp [V.ids], rfl, ?_⟩
    match H, h2 with
    | x :: y :: tl, h2 =>
      simp at h2
      subst h2
      exact ⟨limO 2 x, by simp [St1, limO, O.refs]⟩
  refine DC.post' (new_spec m hm) ?_
  rintro x H1 ⟨rfl, B, rfl⟩ w β F vs hk hr
  obtain ⟨β', H2, a, h2, _⟩ := close_storeAt (p := 1) (a := 2) (b := 3) (rf := [2, 3]) (rb := []) (s := domsOf m) (T := mT []) hk rfl rfl rfl (mT_ids []) (by simp) (by simp) (by simp) (lo_arg (i := 0) hr rfl rfl)
  exact ⟨β', H2, a, rfl, h2⟩
end Go.Abs.G


namespace Go.Abs.G
open Go.Proofs
attribute [local simp] I.vc sub merge place
set_option linter.unusedVariables false
set_option linter.unusedSimpArgs false

end Go.Abs.G



namespace Go.Abs.G
open Go.Proofs
attribute [local simp] I.vc sub merge place
set_option linter.unusedVariables false
set_option linter.unusedSimpArgs false

end Go.Abs.G



/- Holds, Solution: what they tell. -/
namespace Go.Abs

structure ConOk (c : Con) (vars : Nat) (n : Needs) : Prop where
  terms : ∀ t ∈ c.terms, TermOk vars t
  termsN : c.terms.length ≤ 64
  xs : ∀ x ∈ c.xs, 0 ≤ x ∧ x < vars
  xsN : c.xs.length ≤ 64
  xs1 : n.xs = true → 1 ≤ c.xs.length
  x : n.x = true → 0 ≤ c.x ∧ c.x < vars
  y : n.y = true → 0 ≤ c.y ∧ c.y < vars
  k : -1000000000 ≤ c.k ∧ c.k ≤ 1000000000
  rowsN : c.rows.length ≤ 64
  tableN : c.table.length ≤ 64

theorem ConOk.of {c : Con} {vars : Nat} {n : Needs} (h : conN c vars n = 0) : ConOk c vars n := by
  unfold conN at h
  split at h
  · cases h
  · split at h
    · cases h
    · next h1 =>
      split at h
      · cases h
      · next h2 =>
        split at h
        · cases h
        · next h3 =>
          split at h
          · cases h
          · next h4 =>
            split at h
            · cases h
            · next h5 =>
              simp only [Bool.or_eq_true, not_or, Bool.not_eq_true', Bool.and_eq_true, not_and, decide_eq_true_eq, Bool.not_eq_false] at h2 h3 h5
              obtain ⟨⟨⟨t1, t2⟩, t3⟩, t4⟩ := h2
              obtain ⟨⟨⟨v1, v2⟩, v3⟩, v4⟩ := h3
              obtain ⟨⟨⟨k1, k2⟩, k3⟩, k4⟩ := h5
              have hf : ∀ {a : Bool} {k : Nat}, fieldB c n = false → (!a && decide (0 < k)) = false → countsB a k = true → k ≤ 64 := by
                intro a k _ h h'
                unfold countsB at h'
                cases a <;> simp at h h' <;> omega
              have hfield : fieldB c n = false := by simpa using h1
              have hfl := hfield
              unfold fieldB at hfl
              simp only [Bool.or_eq_false_iff] at hfl
              obtain ⟨⟨⟨⟨_, f1⟩, f2⟩, f3⟩, f4⟩ := hfl
              refine ⟨TermOk.of (by simpa using v1) (by simpa using h4), hf hfield f1 t1, fun x hx => ?_, hf hfield f2 t2, fun hn => ?_, fun hn => ?_, fun hn => ?_, ?_, ?_, hf hfield f3 t3⟩
              · have := (List.any_eq_false.1 (by simpa using v4 : c.xs.any (noB vars) = false)) x hx
                simp [noB] at this
                omega
              · unfold countsB at t2
                rw [hn] at t2
                simp at t2
                omega
              · have := v2 hn
                simp [noB] at this
                omega
              · have := v3 hn
                simp [noB] at this
                omega
              · simp [withinB] at k1
                omega
              · cases hn : n.rows
                · rw [hn] at f4
                  simp at f4
                  simp [f4]
                · have h5' := t4
                  simp [wideB, hn, countsB] at h5'
                  omega
end Go.Abs

namespace Go.Abs.G
open Go.Proofs
attribute [local simp] I.vc sub merge place
set_option linter.unusedVariables false
set_option linter.unusedSimpArgs false

structure AtOk (f : FuncId) (cap : List V) (g : Int → Int) (vars : Nat) : Prop where
  ok : okFunc Try.prog f = true
  ids : V.idsL cap = []
  run : ∀ x : Int, 0 ≤ x → x < vars → DP Try.prog f (V.i x :: cap) fun r => r = V.i (g x)
  bound : ∀ x : Int, 0 ≤ x → x < vars → -1000000000 ≤ g x ∧ g x ≤ 1000000000

section
variable {f : FuncId} {cap : List V} {g : Int → Int} {vars : Nat} (A : AtOk f cap g vars)
include A

end
end Go.Abs.G



namespace Go.Abs.G
open Go.Proofs
attribute [local simp] I.vc sub merge place
set_option linter.unusedVariables false
set_option linter.unusedSimpArgs false

section
variable {f : FuncId} {cap : List V} {g : Int → Int} {vars : Nat} (A : AtOk f cap g vars)
include A

end
end Go.Abs.G



/- A state in short; loops that count. -/
namespace Go.Abs
set_option linter.unusedVariables false

/-- What slots hold. -/
def Sls : List (Nat × V) → St → Prop
  | [], _ => True
  | [p], s => gt s.sl p.1 = p.2
  | p :: q :: l, s => gt s.sl p.1 = p.2 ∧ Sls (q :: l) s
/-- A state: its heap, and what slots hold. -/
def At (l : List (Nat × V)) (H : Heap) (s : St) : Prop := s.hp = H ∧ Sls l s

@[simp] theorem sls_nil (s : St) : Sls [] s = True := rfl
@[simp] theorem sls_one (p : Nat × V) (s : St) : Sls [p] s = (gt s.sl p.1 = p.2) := rfl
@[simp] theorem sls_cons (p q : Nat × V) (l : List (Nat × V)) (s : St) : Sls (p :: q :: l) s = (gt s.sl p.1 = p.2 ∧ Sls (q :: l) s) := rfl

theorem least {p : Nat → Prop} (h : ∃ n, p n) : ∃ n, p n ∧ ∀ k, p k → n ≤ k := by
  obtain ⟨n, hn⟩ := h
  induction n using Nat.strongRecOn with
  | ind n ih =>
    by_cases h : ∃ k, k < n ∧ p k
    · obtain ⟨k, hk, hp⟩ := h; exact ih k hk hp
    · exact ⟨n, hn, fun k hk => by
        by_cases hkn : n ≤ k
        · exact hkn
        · exact (h ⟨k, by omega, hk⟩).elim⟩

/-- A loop that counts to n, by what holds behind i rounds. -/
theorem WI.upto {P : Program} {c : C} {Q : Ex → St → Prop} {st : St} (m : Nat) (hm : st.hp.length ≤ m) (n : Nat) (I : Nat → St → Prop) (h0 : I 0 st)
    (hr : ∀ i s, i ≤ n → I i s → vc P c (fun e s' => match e with | .norm => i < n ∧ I (i + 1) (s'.trim m) | .exit k => Q (.exit k) s' | .ret => Q .ret s') s) : WI P (.loop c) Q st := by
  classical
  let μ : St → Nat := fun s => if h : ∃ k, k ≤ n ∧ I (n - k) s then Classical.choose (least h) else 0
  refine WI.loop m hm (fun s => ∃ i, i ≤ n ∧ I i s) μ ⟨0, Nat.zero_le _, h0⟩ ?_
  rintro s ⟨i, hi, hI⟩
  have hx : ∃ k, k ≤ n ∧ I (n - k) s := ⟨n - i, by omega, by rw [show n - (n - i) = i from by omega]; exact hI⟩
  obtain ⟨⟨k1, k2⟩, k3⟩ := Classical.choose_spec (least hx)
  have hμ : μ s = Classical.choose (least hx) := dif_pos hx
  rw [hμ]
  generalize Classical.choose (least hx) = k at *
  refine vc_mono (fun e s' he => ?_) (hr (n - k) s (by omega) k2)
  cases e with
  | norm =>
    obtain ⟨e1, e2⟩ := he
    refine ⟨⟨_, by omega, e2⟩, ?_⟩
    have hy : ∃ q, q ≤ n ∧ I (n - q) (s'.trim m) := ⟨k - 1, by omega, by rw [show n - (k - 1) = n - k + 1 from by omega]; exact e2⟩
    have hμ' : μ (s'.trim m) = Classical.choose (least hy) := dif_pos hy
    rw [hμ']
    have := (Classical.choose_spec (least hy)).2 (k - 1) ⟨by omega, by rw [show n - (k - 1) = n - k + 1 from by omega]; exact e2⟩
    omega
  | exit j => exact he
  | ret => exact he

/-- The same, of what comes behind. -/
theorem vc_upto {P : Program} {c : C} {Q : Ex → St → Prop} {st : St} (m : Nat) (hm : st.hp.length ≤ m) (n : Nat) (I : Nat → St → Prop) (h0 : I 0 st)
    (hr : ∀ i s, i ≤ n → I i s → vc P c (fun e s' => match e with | .norm => i < n ∧ I (i + 1) (s'.trim m) | .exit k => Q (.exit k) s' | .ret => Q .ret s') s) : vc P (.loop c) Q st := WI.upto m hm n I h0 hr

/-- A contract that gives just this, over just this. -/
theorem DC.to {P : Program} {f : FuncId} {xs : List V} {H : Heap} {r : V} {H' : Heap} {Q : V → Heap → Prop} (h : DC P f xs H fun x K => x = r ∧ K = H') (hq : Q r H') : DC P f xs H Q :=
  DC.mono h fun x K ⟨a, b⟩ => by rw [a, b]; exact hq

/-! What each operation asks, but for calls. -/
section
variable {P : Program} {k : St → Prop} {st : St} {d : Option Nat} {x y v n m key : Operand} {l : L} {t es r len bytes : Nat} {ts ap : List Nat} {zero : List V} {parts : List (Nat × Operand)} {kd : IntKind}
@[simp] theorem vc_lt : I.vc P (.lt d l) k st = (l.pre st ∧ k (st.put d (l.val st))) := rfl
@[simp] theorem vc_frz : I.vc P (.frz t) k st = (if (gt st.sl t).ids = [] then k st else (gt st.sl t).fzP st.hp ∧ k { st with sl := up st.sl t ((gt st.sl t).fz st.hp), hp := st.hp.fz (gt st.sl t).ids }) := rfl
@[simp] theorem vc_nilv : I.vc P (.nilv t es) k st = k { st with sl := up st.sl t (if (gt st.sl t).nilSl then .view es [] else gt st.sl t) } := rfl
@[simp] theorem vc_keep : I.vc P (.keep ts) k st = k { st with sl := keepS st.sl ts } := rfl
@[simp] theorem vc_wk : I.vc P .wk k st = (∃ st', Weak st st' ∧ k st') := rfl
@[simp] theorem vc_alloc : I.vc P (.alloc d r len zero) k st = (st.hp[st.bs + r]? = some .res ∧ zero.length = len ∧ k ({ st with hp := st.hp.set (st.bs + r) (.mem false [] [zero]) }.put d (.ptr (st.bs + r) 1 0 0))) := rfl
@[simp] theorem vc_box : I.vc P (.box d r len x) k st = (st.hp[st.bs + r]? = some .res ∧ (st.ev x).sized st.hp len ∧
      k ({ st with hp := st.hp.set (st.bs + r) (.mem false (V.idsL (st.ev x).cells) [(st.ev x).cells]) }.put d (.ptr (st.bs + r) 1 0 0))) := rfl
@[simp] theorem vc_bsl : I.vc P (.bsl d r es len zero parts) k st = (st.hp[st.bs + r]? = some .res ∧ zero.length = es ∧ (∀ p ∈ parts, (st.ev p.2).sized st.hp es ∧ p.1 < len) ∧
      k ({ st with hp := st.hp.set (st.bs + r) (.mem false (V.idsL (fillV (List.flatten (List.replicate len zero)) (parts.map fun (p : Nat × Operand) => (p.1 * es, es, st.ev p.2)))) (chunk es len (fillV (List.flatten (List.replicate len zero)) (parts.map fun (p : Nat × Operand) => (p.1 * es, es, st.ev p.2))))) }.put d (.own (st.bs + r) es 0 len len))) := rfl
@[simp] theorem vc_bsv : I.vc P (.bsv d es len zero parts) k st = (zero.length = es ∧ (∀ p ∈ parts, V.idsL (st.ev p.2).cells = [] ∧ (st.ev p.2).sized st.hp es ∧ p.1 < len) ∧
      k (st.put d (I.bsvV es len zero (parts.map fun (p : Nat × Operand) => (p.1 * es, es, st.ev p.2))))) := rfl
@[simp] theorem vc_mkm : I.vc P (.mkm d r) k st = (st.hp[st.bs + r]? = some .res ∧ k ({ st with hp := st.hp.set (st.bs + r) (.map false [] []) }.put d (.mp (st.bs + r)))) := rfl
@[simp] theorem vc_mks : I.vc P (.mks d r es bytes zero n) k st = (st.hp[st.bs + r]? = some .res ∧ zero.length = es ∧ (∃ m, st.ev n = .a (.int .i64 m)) ∧ 0 ≤ (st.ev n).num ∧ (st.ev n).num * bytes ≤ 140737488355328 ∧
      k ({ st with hp := st.hp.set (st.bs + r) (.mem false [] (List.replicate (st.ev n).num.toNat zero)) }.put d (.own (st.bs + r) es 0 (st.ev n).num.toNat (st.ev n).num.toNat))) := rfl
@[simp] theorem vc_pan : I.vc P .pan k st = False := rfl
@[simp] theorem vc_store : I.vc P (.store ap len x v) k st = (match st.ev x with
    | .ptr id tot i j => match st.hp.getD id .dead with
      | .mem false refs rows => (∀ t ∈ ap, (gt st.sl t).oid ≠ some id) ∧ rows.length = tot ∧ i < tot ∧ j + len ≤ (rows.getD i []).length ∧ (st.ev v).sized st.hp len ∧
          k { st with hp := st.hp.set id (.mem false (addRefs refs (V.idsL (st.ev v).cells)) (rows.set i (rowSet (rows.getD i []) j (st.ev v).cells))) }
      | _ => False
    | _ => False) := rfl
@[simp] theorem vc_app : I.vc P (.app ap d r es bytes x y) k st = (match st.ev x with
    | .own id es' off len tot => match st.hp.getD id .dead with
      | .mem false refs rows => (∀ t ∈ ap, (gt st.sl t).oid ≠ some id) ∧ es' = es ∧ rows.length = tot ∧ off + len = tot ∧ okSl st.hp (st.ev y) ∧ (st.ev y).slEs es ∧ ((len : Int) + (st.ev y).slLen) * bytes ≤ 140737488355328 ∧
          k ({ st with hp := st.hp.set id (.mem false (addRefs refs ((st.ev y).rowIds st.hp)) (rows ++ (st.ev y).rowsOf st.hp)) }.put d (.own id es off (len + ((st.ev y).rowsOf st.hp).length) (tot + ((st.ev y).rowsOf st.hp).length)))
      | _ => False
    | .a (.slice none 0 0) => st.hp[st.bs + r]? = some .res ∧ okSl st.hp (st.ev y) ∧ (st.ev y).slEs es ∧ (st.ev y).slLen * bytes ≤ 140737488355328 ∧
          k ({ st with hp := st.hp.set (st.bs + r) (.mem false ((st.ev y).rowIds st.hp) ((st.ev y).rowsOf st.hp)) }.put d (.own (st.bs + r) es 0 ((st.ev y).rowsOf st.hp).length ((st.ev y).rowsOf st.hp).length))
    | .nul es' => es' = es ∧ st.hp[st.bs + r]? = some .res ∧ okSl st.hp (st.ev y) ∧ (st.ev y).slEs es ∧ (st.ev y).slLen * bytes ≤ 140737488355328 ∧
          (if ((st.ev y).rowsOf st.hp).isEmpty = true then k (st.put d (.nul es)) else
            k ({ st with hp := st.hp.set (st.bs + r) (.mem false ((st.ev y).rowIds st.hp) ((st.ev y).rowsOf st.hp)) }.put d (.own (st.bs + r) es 0 ((st.ev y).rowsOf st.hp).length ((st.ev y).rowsOf st.hp).length)))
    | _ => False) := rfl
@[simp] theorem vc_cpy : I.vc P (.cpy d es x y) k st = (match st.ev x with
    | .own id es' off len tot => match st.hp.getD id .dead with
      | .mem false refs rows => es' = es ∧ rows.length = tot ∧ off + len ≤ tot ∧ okSl st.hp (st.ev y) ∧ (st.ev y).slEs es ∧ (st.ev y).slLen ≤ len ∧
          k ({ st with hp := st.hp.set id (.mem false (addRefs refs ((st.ev y).rowIds st.hp)) (rows.take off ++ (st.ev y).rowsOf st.hp ++ rows.drop (off + ((st.ev y).rowsOf st.hp).length))) }.put d (.a (.int .i64 (st.ev y).slLen)))
      | _ => False
    | _ => False) := rfl
@[simp] theorem vc_mup : I.vc P (.mup ap kd m key v) k st = (match st.ev m with
    | .mp id => match st.hp.getD id .dead with
      | .map false refs es => (∀ t ∈ ap, (gt st.sl t).oid ≠ some id) ∧ (∀ e ∈ es, e.1.isKey kd = true) ∧ (st.ev key).isKey kd = true ∧
          k { st with hp := st.hp.set id (.map false (addRefs refs (V.idsL [st.ev v])) (putE es (st.ev key) (st.ev v))) }
      | _ => False
    | _ => False) := rfl

/-! Calls. -/
variable {f : FuncId} {xs : List Operand}
theorem call_go {r0 : V} {zs : List V} (hc : Pf P f zs r0) (ha : xs.map st.ev = zs) (hi : V.idsL zs = []) (hk : k (st.put d r0)) : I.vc P (.call d f xs) k st := by
  subst ha; exact ⟨hi, hc.use hk⟩
theorem callo_gen {zs : List V} {Q : V → Heap → Prop} (hc : DC P f zs [] Q) (ha : xs.map st.ev = zs) (hi : V.idsL zs = []) (hf : okFunc P f = true)
    (hk : ∀ r H', Q r H' → k ({ st with hp := st.hp ++ H'.map (O.ren (st.hp.length + ·)) }.put d (r.ren (st.hp.length + ·)))) : I.vc P (.callo d (.func f) xs) k st := by
  rw [callo_fn]; subst ha; exact ⟨hf, hi, hc.mono hk⟩
theorem callo_go {zs : List V} {r0 : V} {H0 : Heap} (hc : DC P f zs [] fun r H => r = r0 ∧ H = H0) (ha : xs.map st.ev = zs) (hi : V.idsL zs = []) (hf : okFunc P f = true)
    (hk : k ({ st with hp := st.hp ++ H0.map (O.ren (st.hp.length + ·)) }.put d (r0.ren (st.hp.length + ·)))) : I.vc P (.callo d (.func f) xs) k st :=
  callo_gen hc ha hi hf fun r H ⟨a, b⟩ => by subst a b; exact hk
theorem callm_gen {zs : List V} {H0 : Heap} {Q : V → Heap → Prop} (hc : DC P f zs H0 Q) (sel : List Nat) (hs : clos st.hp 8 (addAll [] (V.idsL (xs.map st.ev))) = sel) (hok : OkSel st.hp sel) (ha : V.renL (idx sel) (xs.map st.ev) = zs) (hH : sub st.hp sel = H0)
    (hf : okFunc P f = true) (hk : ∀ r H', Q r H' → k ({ st with hp := merge st.hp sel H' }.put d (r.ren (back sel st.hp.length)))) : I.vc P (.callm d (.func f) xs) k st := by
  rw [callm_fn]; subst hs ha hH; exact ⟨hf, hok, hc.mono hk⟩
theorem callm_go {zs : List V} {H0 : Heap} {r0 : V} {H1 : Heap} (hc : DC P f zs H0 fun r H => r = r0 ∧ H = H1) (sel : List Nat) (hs : clos st.hp 8 (addAll [] (V.idsL (xs.map st.ev))) = sel) (hok : OkSel st.hp sel) (ha : V.renL (idx sel) (xs.map st.ev) = zs) (hH : sub st.hp sel = H0)
    (hf : okFunc P f = true) (hk : k ({ st with hp := merge st.hp sel H1 }.put d (r0.ren (back sel st.hp.length)))) : I.vc P (.callm d (.func f) xs) k st :=
  callm_gen hc sel hs hok ha hH hf fun r H ⟨a, b⟩ => by subst a b; exact hk
end

/-- An object that names no other. -/
structure O.clo (o : O) : Prop where
  refs : o.refs = []
  ren : ∀ f, o.ren f = o
  nres : o ≠ .res
theorem clos_one {H : Heap} {k : Nat} {o : O} (h : H[k]? = some o) (c : o.clo) : clos H 8 [k] = [k] :=
  clos_stop H 8 [k] fun i hi q hq => by
    simp only [List.mem_singleton] at hi; subst hi
    rw [getD_some h, c.refs] at hq; cases hq
theorem okSel_one {H : Heap} {k : Nat} {o : O} (h : H[k]? = some o) (c : o.clo) : OkSel H [k] := by
  refine ⟨by simp, fun i hi => ?_, fun i hi => ?_, fun i hi q hq => ?_⟩ <;> (simp only [List.mem_singleton] at hi; subst hi)
  · exact lt_of_get h
  · rw [getD_some h]; exact c.nres
  · rw [getD_some h, c.refs] at hq; cases hq
theorem sub_one {H : Heap} {k : Nat} {o : O} (h : H[k]? = some o) (c : o.clo) : sub H [k] = [o] := by
  simp only [sub, List.map_cons, List.map_nil, getD_some h, c.ren]
theorem merge_one {H H1 : Heap} {k : Nat} {o o' : O} (h : H[k]? = some o) (c : o'.clo) (h1 : ∀ p ∈ H1, p.clo) : merge H [k] (o' :: H1) = H.set k o' ++ H1 := by
  have : H1.map (O.ren (back [k] H.length)) = H1 := (List.map_congr_left fun p hp => (h1 p hp).ren _).trans (List.map_id _)
  simp only [merge, place, List.length_cons, List.length_nil, Nat.zero_add, List.take_succ_cons, List.take_zero, List.map_cons, List.map_nil, c.ren, List.drop_succ_cons, List.drop_zero, this]
theorem set_same {H : Heap} {k : Nat} {o : O} (h : H[k]? = some o) : H.set k o = H := by
  obtain ⟨hl, he⟩ := List.getElem?_eq_some_iff.1 h
  rw [← he]; exact List.set_getElem_self hl
section
variable {P : Program} {k : St → Prop} {st : St} {d : Option Nat} {ap : List Nat} {f : FuncId} {xs : List Operand}
/-- A call that is handed one object by itself. -/
theorem callm_one {zs : List V} {r0 : V} {o o' : O} {H1 : Heap} (hc : DC P f zs [o] fun r H => r = r0 ∧ H = o' :: H1) (p : Nat) (hi : addAll [] (V.idsL (xs.map st.ev)) = [p]) (hp : st.hp[p]? = some o) (c : o.clo) (c' : o'.clo) (c1 : ∀ q ∈ H1, q.clo)
    (ha : V.renL (idx [p]) (xs.map st.ev) = zs) (hf : okFunc P f = true) (hk : k ({ st with hp := st.hp.set p o' ++ H1 }.put d (r0.ren (back [p] st.hp.length)))) : I.vc P (.callm d (.func f) xs) k st :=
  callm_go hc [p] (by rw [hi, clos_one hp c]) (okSel_one hp c) ha (sub_one hp c) hf (by rw [merge_one hp c' c1]; exact hk)
end
end Go.Abs

/- Contracts: of what a call leaves, the objects that its caller wants, numbered anew. -/
namespace Go.Abs
set_option linter.unusedVariables false

theorem HOK.less {hp : Array Obj} {H : Heap} {β : Nat → Hd} {F F' : Nat → Prop} (hk : HOK hp H β F) (h : ∀ b, F' b → F b) : HOK hp H β F' ∧ (cx hp H β F).le (cx hp H β F') := by
  have hle : (cx hp H β F).le (cx hp H β F') := ⟨Nat.le_refl _, fun b hb hn => ⟨rfl, fun e => hn (e.imp id (h b))⟩, fun _ h => h, fun _ _ _ e => .inl e⟩
  exact ⟨⟨fun i o ho => (hk.ro i o ho).mono hle rfl (fun hn e => hn (e.imp (fun x => x) (h _))) fun _ _ _ _ _ _ => rfl, hk.one, fun b hb => hk.far b (h b hb)⟩, hle⟩

theorem DC.pick {P : Program} {f : FuncId} {xs : List V} {H : Heap} {Q Q' : V → Heap → Prop} (h : DC P f xs H Q)
    (hq : ∀ x H', Q x H' → ∃ sel, OkSel H' sel ∧ (∀ i, i < H.length → sel[i]? = some i) ∧ (∀ i ∈ x.ids, i ∈ sel) ∧ Q' (x.ren (idx sel)) (Abs.sub H' sel)) : DC P f xs H Q' := fun w β F vs hk hr =>
  (h w β F vs hk hr).mono fun e w' ⟨r, x, H', β2, h1, h2, h3, h4⟩ => by
    obtain ⟨sel, ok, hn, hx, hQ⟩ := hq x H' h4
    obtain ⟨k1, k2⟩ := (sub_ok h2.hok ok).less (F' := F) fun b hb => .inl hb
    have hsub : ∀ id, id < H.length → (Abs.sub H' sel)[id]? = (H'[id]?).map (O.ren (idx sel)) ∧ βsub β2 sel id = β2 id := fun id hid => by
      obtain ⟨h5, h6⟩ := List.getElem?_eq_some_iff.1 (hn id hid)
      have h7 : sel.getD id 0 = id := by simp [List.getD, hn id hid]
      exact ⟨by rw [sub_get ok h5, h7], by unfold βsub; rw [h7]⟩
    refine ⟨r, _, _, βsub β2 sel, h1, ⟨k1, ⟨h2.le.size, fun b hb hno => ⟨(h2.le.same b hb hno).1, fun e => (h2.le.same b hb hno).2 ?_⟩, fun id hl => ?_, fun id g' hl e => ?_⟩, h2.ext⟩, ?_, hQ⟩
    · rcases e with ⟨j, e⟩ | e
      · exact .inl ⟨_, (owns_sub ok e).2⟩
      · exact .inr e
    · have hlt : id < H.length := by obtain ⟨o, e, _⟩ := hl; exact lt_of_get e
      exact (liveIn_ren (hsub id hlt).1).2 (h2.le.live id hl)
    · have hlt : id < H.length := by obtain ⟨o, e, _⟩ := hl; exact lt_of_get e
      refine h2.le.hd id g' hl ?_
      have e' : hdOf (Abs.sub H' sel) (βsub β2 sel) id = some g' := e
      rw [hdOf_ren (hsub id hlt).1 (hsub id hlt).2] at e'
      exact e'
    · have h5 := (h3.onlyOf x.ids fun i hi => hi).ren (ren_sub (w := w') (F := F) ok hx)
      exact h5.up.mono k2

/-- The same, for results that are just this, over just this. -/
theorem DC.picks {P : Program} {f : FuncId} {xs : List V} {H : Heap} {Q : V → Heap → Prop} {r : V} {K : Heap} (h : DC P f xs H Q)
    (hq : ∀ x H', Q x H' → ∃ sel, OkSel H' sel ∧ (∀ i, i < H.length → sel[i]? = some i) ∧ (∀ i ∈ x.ids, i ∈ sel) ∧ x.ren (idx sel) = r ∧ Abs.sub H' sel = K) : DC P f xs H fun x H' => x = r ∧ H' = K :=
  h.pick fun x H' hQ => by obtain ⟨sel, a, b, c, d, e⟩ := hq x H' hQ; exact ⟨sel, a, b, c, d, e⟩

/-- A slice without elements, as one of its own. -/
theorem DC.ownnil {P : Program} {f : FuncId} {xs : List V} {H : Heap} {Q Q' : V → Heap → Prop} (h : DC P f xs H Q)
    (hq : ∀ x H', Q x H' → Q' x H' ∨ ∃ es, (x = .a (.slice none 0 0) ∨ ∃ es', x = .nul es') ∧ Q' (.own H'.length es 0 0 0) (H' ++ [.mem false [] []])) : DC P f xs H Q' := fun w β F vs hk hr =>
  (h w β F vs hk hr).mono fun e w' ⟨r, x, H', β2, h1, h2, h3, h4⟩ => by
    rcases hq x H' h4 with hQ | ⟨es, hx, hQ⟩
    · exact ⟨r, x, H', β2, h1, h2, h3, hQ⟩
    · obtain ⟨ad, rfl⟩ : ∃ ad, r = .slice ad 0 0 := by
        rcases hx with rfl | ⟨es', rfl⟩
        · exact ⟨none, h3.of_a⟩
        · cases h3 with
          | nul => exact ⟨_, rfl⟩
      have a1 := adv_res (F := F) h2.hok 1
      have hg : (H' ++ List.replicate 1 O.res)[H'.length]? = some O.res := by simp
      have a2 := new_nil (es := es) (refs := []) (F := F) a1.hok hg
      have e : (H' ++ List.replicate 1 O.res).set H'.length (.mem false [] []) = H' ++ [.mem false [] []] := by
        rw [List.set_append, if_neg (by omega), Nat.sub_self]; rfl
      have a3 := nil_own (es := es) (refs := []) (ad := ad) (hp := w'.heap) (F := F) (β := β2) hg
      rw [e] at a2 a3
      exact ⟨_, _, _, _, h1, h2.trans (a1.trans a2), a3, hQ⟩

end Go.Abs

/- Many objects at once. -/
namespace Go.Abs
set_option linter.unusedVariables false
section
variable {w : World} {β : Nat → Hd} {F : Nat → Prop} {H : Heap}
end
end Go.Abs

/- A struct whose second cell is a nil slice, as one that owns a slice there. -/
namespace Go.Abs
set_option linter.unusedVariables false

section
variable {w : World} {β : Nat → Hd} {F : Nat → Prop} {H : Heap}
end

end Go.Abs

/- The objects that a struct's cells may name, told closer. -/
namespace Go.Abs
set_option linter.unusedVariables false
end Go.Abs

/- A slice of one's own of no elements, of memory that has some. -/
namespace Go.Abs
set_option linter.unusedVariables false
theorem DC.own0g {P : Program} {f : FuncId} {es off tot : Nat} {ys : List V} {H : Heap} {Q : V → Heap → Prop} {id : Nat} {refs : List Nat} {rows : List (List V)} (hid : H[id]? = some (.mem false refs rows)) (ht : rows.length = tot)
    (h : ∀ ad c, (ad = none → c = 0) → DC P f (.a (.slice ad 0 c) :: ys) H Q) : DC P f (.own id es off 0 tot :: ys) H Q := by
  intro w β F vs hk hr
  have hlt : 0 < vs.size := by have := hr.1; simp at this; omega
  have hv := hr.2 0 vs[0] (.own id es off 0 tot) (by simp [hlt]) rfl
  have hd : hdOf H β id = some ((β id).wt tot) := by unfold hdOf; rw [hid, ← ht]
  have key : ∃ ad c, (ad = none → c = 0) ∧ vs[0] = .slice ad 0 c := by
    generalize vs[0] = v at hv
    cases hv with
    | own hl hh =>
      obtain ⟨_, g⟩ := hh _ hd
      obtain ⟨_, _, g⟩ := g rfl
      rcases g with ⟨_, ⟨ad, rfl⟩, _⟩ | ⟨_, ad, rfl, _⟩
      · exact ⟨ad, 0, fun _ => rfl, rfl⟩
      · exact ⟨some ad, _, (fun e => by cases e), rfl⟩
  obtain ⟨ad, c, h1, h2⟩ := key
  refine h ad c h1 w β F vs hk ⟨by simpa using hr.1, fun i v x hv' hx => ?_⟩
  cases i with
  | zero =>
    rw [Array.getElem?_eq_getElem hlt] at hv'
    injection hv' with hv'
    injection hx with hx
    subst hx
    rw [← hv', h2]; exact .a
  | succ i => exact hr.2 (i + 1) v x hv' (by simpa using hx)
end Go.Abs

namespace Go.Abs.G
open Go.Proofs
set_option linter.unusedVariables false
set_option linter.unusedSimpArgs false
attribute [local simp] I.vc

end Go.Abs.G


namespace Go.Abs.G
open Go.Proofs
set_option linter.unusedVariables false
set_option linter.unusedSimpArgs false

section
variable {s : List Dom} {rf : List Nat} {R : List (List V)} {Es L : Heap} {n c : Nat}
end

/-- A copy's slice of marks: where each lies. -/
def cR (b : Nat) (ms : List (List Dom)) (i : Nat) : List (List V) := ((ms.take i).zipIdx).map fun p => [.own (b + 3 * p.2) 4 0 p.1.length p.1.length]
/-- What stands behind i marks copied, behind the original. -/
inductive CI (s : List Dom) (ms : List (List Dom)) (n : Nat) : Nat → Heap → Prop where
  | zero {i : Nat} (hi : i = 0) : CI s ms n i [.mem false [n + 1] [[.own (n + 1) 4 0 s.length s.length, nilS]], .mem false [] (s.map Dom.row)]
  | some {i : Nat} {rf rf' : List Nat} {G : O} {T : Heap} (hi : 0 < i) (hl : T.length = 3 * i - 2) (hk : ∀ j L, j < i → ms[j]? = some L → T[3 * j]? = some (.mem false [] (L.map Dom.row)))
      (hr : ∀ r ∈ rf, r < n + 4 + 3 * i) (hr' : ∀ r ∈ rf', r < n + 4 + 3 * i) : CI s ms n i (.mem false rf [[.own (n + 1) 4 0 s.length s.length, .own (n + 3) 1 0 i i]] :: .mem false [] (s.map Dom.row) :: G :: .mem false rf' (cR (n + 4) ms i) :: T)

theorem CI.len {s : List Dom} {ms : List (List Dom)} {n i : Nat} {E : Heap} (h : CI s ms n i E) : E.length = 2 + 3 * i := by
  cases h with
  | zero hi => simp [hi]
  | some hi hl hk hr hr' => simp [hl]; omega
theorem limO_of {m : Nat} {o : O} (h : ∀ r ∈ o.refs, r < m) : limO m o = o := by
  unfold limO; rw [if_pos (List.all_eq_true.2 fun r hr => by simpa using h r hr)]
theorem CI.trim {s : List Dom} {ms : List (List Dom)} {n i m : Nat} {E : Heap} (h : CI s ms n i E) (hm : n + 4 + 3 * i ≤ m) : CI s ms n i (E.map (limO m)) := by
  cases h with
  | zero hi =>
    rw [List.map_cons, List.map_cons, List.map_nil, limO_of (by simp [O.refs]; omega), limO_of (by simp [O.refs])]
    exact .zero hi
  | some hi hl hk hr hr' =>
    rw [List.map_cons, List.map_cons, List.map_cons, List.map_cons, limO_of (fun r h => by have := hr r h; omega), limO_of (by simp [O.refs]), limO_of (o := .mem false _ (cR (n + 4) ms i)) (fun r h => by have := hr' r h; omega)]
    refine .some hi (by simpa using hl) (fun j L hj hL => ?_) hr hr'
    rw [List.getElem?_map, hk j L hj hL, Option.map_some, limO_of (by simp [O.refs])]
end Go.Abs.G


namespace Go.Abs.G
open Go.Proofs
set_option linter.unusedVariables false
set_option linter.unusedSimpArgs false

end Go.Abs.G


namespace Go.Abs.G
open Go.Proofs
set_option linter.unusedVariables false
set_option linter.unusedSimpArgs false

end Go.Abs.G


namespace Go.Abs.G
open Go.Proofs
set_option linter.unusedVariables false
set_option linter.unusedSimpArgs false

/-- A store that lies open somewhere. -/
structure Uat (H : Heap) (s : List Dom) (T : List (List Ce)) (p a b : Nat) : Prop where
  h0 : H[p]? = some (.mem false [a, b] [[.own a 4 0 s.length s.length, .own b 1 0 T.length T.length]])
  h1 : H[a]? = some (.mem false [] (s.map Dom.row))
  h2 : H[b]? = some (.tree [] T)
  na : p ≠ a
  nb : p ≠ b
  nab : a ≠ b

section
variable {H : Heap} {s : List Dom} {T : List (List Ce)} {p a b : Nat}
theorem Uat.sub (h : Uat H s T p a b) (hT : ∀ f, Ce.renR f T = T) : Abs.sub H [p, a, b] = U s T := by
  have i1 : idx [p, a, b] a = 1 := by simp [idx, List.idxOf_cons, beq_false_of_ne h.na]
  have i2 : idx [p, a, b] b = 2 := by simp [idx, List.idxOf_cons, beq_false_of_ne h.nb, beq_false_of_ne h.nab]
  simp [-idx, Abs.sub, getD_some h.h0, getD_some h.h1, getD_some h.h2, h.h0, h.h1, h.h2, O.ren, V.renL, V.ren, i1, i2, hT, U, Function.comp_def]
theorem Uat.ok (h : Uat H s T p a b) : OkSel H [p, a, b] := by
  refine ⟨by simp [h.na, h.nb, h.nab], fun i hi => ?_, fun i hi => ?_, fun i hi k hk => ?_⟩ <;> (simp only [List.mem_cons, List.not_mem_nil, or_false] at hi)
  · rcases hi with rfl | rfl | rfl
    · exact lt_of_get h.h0
    · exact lt_of_get h.h1
    · exact lt_of_get h.h2
  · rcases hi with rfl | rfl | rfl
    · rw [getD_some h.h0]; simp
    · rw [getD_some h.h1]; simp
    · rw [getD_some h.h2]; simp
  · rcases hi with rfl | rfl | rfl
    · rw [getD_some h.h0] at hk; simp [O.refs] at hk ⊢; exact .inr hk
    · rw [getD_some h.h1] at hk; simp [O.refs] at hk
    · rw [getD_some h.h2] at hk; simp [O.refs] at hk
theorem Uat.clos (h : Uat H s T p a b) : clos H 8 [p] = [p, a, b] := by
  have h3 : ∀ n, Abs.clos H n [p, a, b] = [p, a, b] := fun n => clos_stop H n _ h.ok.cl
  have cs : ∀ n l, Abs.clos H (n + 1) l = Abs.clos H n (addAll l (l.flatMap fun i => (H.getD i .dead).refs)) := fun _ _ => rfl
  rw [cs 7]
  simp only [List.flatMap_cons, List.flatMap_nil, getD_some h.h0, O.refs, List.append_nil]
  have : addAll [p] [a, b] = [p, a, b] := by simp [addAll, Ne.symm h.na, Ne.symm h.nb, Ne.symm h.nab]
  rw [this]; exact h3 7
theorem Uat.merge (h : Uat H s T p a b) (hT : ∀ f, Ce.renR f T = T) : merge H [p, a, b] (U s T) = H := by
  have i1 : back [p, a, b] H.length 1 = a := rfl
  have i2 : back [p, a, b] H.length 2 = b := rfl
  have e0 : O.ren (back [p, a, b] H.length) (.mem false [1, 2] [[.own 1 4 0 s.length s.length, .own 2 1 0 T.length T.length]]) = .mem false [a, b] [[.own a 4 0 s.length s.length, .own b 1 0 T.length T.length]] := by simp [O.ren, V.renL, V.ren, i1, i2]
  have e1 : O.ren (back [p, a, b] H.length) (.mem false [] (s.map Dom.row)) = .mem false [] (s.map Dom.row) := by simp [O.ren, Function.comp_def]
  have e2 : O.ren (back [p, a, b] H.length) (.tree [] T) = .tree [] T := by simp [O.ren, hT]
  simp only [Abs.merge, U, List.length_cons, List.length_nil, Nat.zero_add, Nat.reduceAdd, List.take_succ_cons, List.take_zero, List.map_cons, List.map_nil, List.drop_succ_cons, List.drop_zero, List.append_nil, e0, e1, e2, place]
  rw [set_same h.h0, set_same h.h1, set_same h.h2]
end

end Go.Abs.G


namespace Go.Abs.G
open Go.Proofs
set_option linter.unusedVariables false
set_option linter.unusedSimpArgs false

@[simp] theorem St1_lim (n : Nat) (s : List Dom) (T : List (List Ce)) : limO n (St1 s T) = St1 s T := by simp [St1, limO, O.refs]

/-- New's store alone. -/
theorem newP1 (m : Model) (hm : okModel m) : DC Try.prog dom_New.id [.agg m.cells] [] (fun r H => r = .ptr 0 1 0 0 ∧ H = [St1 (domsOf m) (mT [])]) := by
  refine DC.picks (newP m hm) ?_
  rintro r H ⟨rfl, B, rfl⟩
  exact ⟨[1], by simp [St1, O.refs], by simp, by simp [V.ids], rfl, by simp [sub, St1, O.ren, Ce.renR, Ce.renL, Ce.ren, domCe_ren, mT_ren]⟩
end Go.Abs.G


/- Evaluation that leaves what comes behind alone. -/
namespace Go.Abs
set_option linter.unusedVariables false

def vcF (P : Program) (c : C) (Q : Ex → St → Prop) [Fix Q] (st : St) : Prop := vc P c Q st
def vcItsF (P : Program) (l : List It) (k : St → Prop) [Fix k] (st : St) : Prop := vcIts P l k st
def IvcF (P : Program) (i : I) (k : St → Prop) [Fix k] (st : St) : Prop := i.vc P k st

section
variable {P : Program} {Q : Ex → St → Prop} {st : St} {x : Operand} {a b c : C} {k : St → Prop} {l its : List It} {j t n id : Nat} {want : Bool} {d : Option Nat} {i : I}
@[simp ↓ high] theorem vcF_of : vc P c Q st = vcF P c Q st := propext Iff.rfl
@[simp ↓ high] theorem vcItsF_of : vcIts P l k st = vcItsF P l k st := propext Iff.rfl
@[simp ↓ high] theorem IvcF_of : I.vc P i k st = IvcF P i k st := propext Iff.rfl
@[simp] theorem vcF_skip : vcF P .skip Q st = Q .norm st := propext Iff.rfl
@[simp] theorem vcF_reg : vcF P (.reg n its) Q st = vcItsF P its (Q .norm) (st.res n) := propext Iff.rfl
@[simp] theorem vcF_seq : vcF P (.seq a b) Q st = vcF P a (fun e s => match e with | .norm => vcF P b Q s | .exit i => Q (.exit i) s | .ret => Q .ret s) st := propext Iff.rfl
@[simp] theorem vcF_block : vcF P (.block id c) Q st = vcF P c (fun e s => match e with | .norm => Q .norm s | .exit i => if i = id then Q .norm s else Q (.exit i) s | .ret => Q .ret s) st := propext Iff.rfl
@[simp] theorem vcF_exit : vcF P (.exit id) Q st = Q (.exit id) st := propext Iff.rfl
@[simp] theorem vcF_ret : vcF P .ret Q st = Q .ret st := propext Iff.rfl
@[simp] theorem vcF_cond_true (h : st.ev x = .a (.bool true)) : vcF P (.cond x a b) Q st = vcF P a Q st := by
  unfold vcF; simp only [vc, h]; exact propext ⟨fun q => q.1 trivial, fun q => ⟨fun _ => q, fun e => by cases e⟩⟩
@[simp] theorem vcF_cond_false (h : st.ev x = .a (.bool false)) : vcF P (.cond x a b) Q st = vcF P b Q st := by
  unfold vcF; simp only [vc, h]; exact propext ⟨fun q => q.2 trivial, fun q => ⟨(fun e => by cases e), fun _ => q⟩⟩
@[simp] theorem vcItsF_nil : vcItsF P [] k st = k st := propext Iff.rfl
@[simp] theorem vcItsF_g : vcItsF P (.g i :: l) k st = IvcF P i (vcItsF P l k) st := propext Iff.rfl
@[simp] theorem vcItsF_o : vcItsF P (.o j i :: l) k st = IvcF P i (vcItsF P l k) st := propext Iff.rfl
@[simp] theorem vcItsF_gd_pos (h : gt st.sl t = .a (.bool want)) : vcItsF P (.gd j t want d i :: l) k st = IvcF P i (vcItsF P l k) (st.put (some t) (.bool want)) := by
  unfold vcItsF IvcF; simp only [vcIts, h]; exact propext ⟨fun q => q.1 trivial, fun q => ⟨fun _ => q, fun e => by cases want <;> cases e⟩⟩
@[simp] theorem vcItsF_gd_neg (h : gt st.sl t = .a (.bool (!want))) : vcItsF P (.gd j t want d i :: l) k st = vcItsF P l k ((st.put (some t) (.bool !want)).put d (.a undef)) := by
  unfold vcItsF; simp only [vcIts, h]; exact propext ⟨fun q => q.2 trivial, fun q => ⟨(fun e => by cases want <;> cases e), fun _ => q⟩⟩
@[simp] theorem vcItsF_gd_un (h : gt st.sl t = .a (.tuple #[])) : vcItsF P (.gd j t want d i :: l) k st = vcItsF P l k (st.put d (.a undef)) := by unfold vcItsF; simp only [vcIts, h]
end
/-! What each operation asks, but for calls. -/
section
variable {P : Program} {k : St → Prop} {st : St} {d : Option Nat} {x y v n m key : Operand} {l : L} {t es r len bytes : Nat} {ts ap : List Nat} {zero : List V} {parts : List (Nat × Operand)} {kd : IntKind}
@[simp] theorem F_lt : IvcF P (.lt d l) k st = (l.pre st ∧ k (st.put d (l.val st))) := propext Iff.rfl
@[simp] theorem F_frz : IvcF P (.frz t) k st = (if (gt st.sl t).ids = [] then k st else (gt st.sl t).fzP st.hp ∧ k { st with sl := up st.sl t ((gt st.sl t).fz st.hp), hp := st.hp.fz (gt st.sl t).ids }) := propext Iff.rfl
@[simp] theorem F_nilv : IvcF P (.nilv t es) k st = k { st with sl := up st.sl t (if (gt st.sl t).nilSl then .view es [] else gt st.sl t) } := propext Iff.rfl
@[simp] theorem F_keep : IvcF P (.keep ts) k st = k { st with sl := keepS st.sl ts } := propext Iff.rfl
@[simp] theorem F_wk : IvcF P .wk k st = (∃ st', Weak st st' ∧ k st') := propext Iff.rfl
@[simp] theorem F_alloc : IvcF P (.alloc d r len zero) k st = (st.hp[st.bs + r]? = some .res ∧ zero.length = len ∧ k ({ st with hp := st.hp.set (st.bs + r) (.mem false [] [zero]) }.put d (.ptr (st.bs + r) 1 0 0))) := propext Iff.rfl
@[simp] theorem F_box : IvcF P (.box d r len x) k st = (st.hp[st.bs + r]? = some .res ∧ (st.ev x).sized st.hp len ∧
      k ({ st with hp := st.hp.set (st.bs + r) (.mem false (V.idsL (st.ev x).cells) [(st.ev x).cells]) }.put d (.ptr (st.bs + r) 1 0 0))) := propext Iff.rfl
@[simp] theorem F_bsl : IvcF P (.bsl d r es len zero parts) k st = (st.hp[st.bs + r]? = some .res ∧ zero.length = es ∧ (∀ p ∈ parts, (st.ev p.2).sized st.hp es ∧ p.1 < len) ∧
      k ({ st with hp := st.hp.set (st.bs + r) (.mem false (V.idsL (fillV (List.flatten (List.replicate len zero)) (parts.map fun (p : Nat × Operand) => (p.1 * es, es, st.ev p.2)))) (chunk es len (fillV (List.flatten (List.replicate len zero)) (parts.map fun (p : Nat × Operand) => (p.1 * es, es, st.ev p.2))))) }.put d (.own (st.bs + r) es 0 len len))) := propext Iff.rfl
@[simp] theorem F_bsv : IvcF P (.bsv d es len zero parts) k st = (zero.length = es ∧ (∀ p ∈ parts, V.idsL (st.ev p.2).cells = [] ∧ (st.ev p.2).sized st.hp es ∧ p.1 < len) ∧
      k (st.put d (I.bsvV es len zero (parts.map fun (p : Nat × Operand) => (p.1 * es, es, st.ev p.2))))) := propext Iff.rfl
@[simp] theorem F_mkm : IvcF P (.mkm d r) k st = (st.hp[st.bs + r]? = some .res ∧ k ({ st with hp := st.hp.set (st.bs + r) (.map false [] []) }.put d (.mp (st.bs + r)))) := propext Iff.rfl
@[simp] theorem F_mks : IvcF P (.mks d r es bytes zero n) k st = (st.hp[st.bs + r]? = some .res ∧ zero.length = es ∧ (∃ m, st.ev n = .a (.int .i64 m)) ∧ 0 ≤ (st.ev n).num ∧ (st.ev n).num * bytes ≤ 140737488355328 ∧
      k ({ st with hp := st.hp.set (st.bs + r) (.mem false [] (List.replicate (st.ev n).num.toNat zero)) }.put d (.own (st.bs + r) es 0 (st.ev n).num.toNat (st.ev n).num.toNat))) := propext Iff.rfl
@[simp] theorem F_pan : IvcF P .pan k st = False := propext Iff.rfl
@[simp] theorem F_store : IvcF P (.store ap len x v) k st = (match st.ev x with
    | .ptr id tot i j => match st.hp.getD id .dead with
      | .mem false refs rows => (∀ t ∈ ap, (gt st.sl t).oid ≠ some id) ∧ rows.length = tot ∧ i < tot ∧ j + len ≤ (rows.getD i []).length ∧ (st.ev v).sized st.hp len ∧
          k { st with hp := st.hp.set id (.mem false (addRefs refs (V.idsL (st.ev v).cells)) (rows.set i (rowSet (rows.getD i []) j (st.ev v).cells))) }
      | _ => False
    | _ => False) := propext Iff.rfl
@[simp] theorem F_app : IvcF P (.app ap d r es bytes x y) k st = (match st.ev x with
    | .own id es' off len tot => match st.hp.getD id .dead with
      | .mem false refs rows => (∀ t ∈ ap, (gt st.sl t).oid ≠ some id) ∧ es' = es ∧ rows.length = tot ∧ off + len = tot ∧ okSl st.hp (st.ev y) ∧ (st.ev y).slEs es ∧ ((len : Int) + (st.ev y).slLen) * bytes ≤ 140737488355328 ∧
          k ({ st with hp := st.hp.set id (.mem false (addRefs refs ((st.ev y).rowIds st.hp)) (rows ++ (st.ev y).rowsOf st.hp)) }.put d (.own id es off (len + ((st.ev y).rowsOf st.hp).length) (tot + ((st.ev y).rowsOf st.hp).length)))
      | _ => False
    | .a (.slice none 0 0) => st.hp[st.bs + r]? = some .res ∧ okSl st.hp (st.ev y) ∧ (st.ev y).slEs es ∧ (st.ev y).slLen * bytes ≤ 140737488355328 ∧
          k ({ st with hp := st.hp.set (st.bs + r) (.mem false ((st.ev y).rowIds st.hp) ((st.ev y).rowsOf st.hp)) }.put d (.own (st.bs + r) es 0 ((st.ev y).rowsOf st.hp).length ((st.ev y).rowsOf st.hp).length))
    | .nul es' => es' = es ∧ st.hp[st.bs + r]? = some .res ∧ okSl st.hp (st.ev y) ∧ (st.ev y).slEs es ∧ (st.ev y).slLen * bytes ≤ 140737488355328 ∧
          (if ((st.ev y).rowsOf st.hp).isEmpty = true then k (st.put d (.nul es)) else
            k ({ st with hp := st.hp.set (st.bs + r) (.mem false ((st.ev y).rowIds st.hp) ((st.ev y).rowsOf st.hp)) }.put d (.own (st.bs + r) es 0 ((st.ev y).rowsOf st.hp).length ((st.ev y).rowsOf st.hp).length)))
    | _ => False) := propext Iff.rfl
@[simp] theorem F_cpy : IvcF P (.cpy d es x y) k st = (match st.ev x with
    | .own id es' off len tot => match st.hp.getD id .dead with
      | .mem false refs rows => es' = es ∧ rows.length = tot ∧ off + len ≤ tot ∧ okSl st.hp (st.ev y) ∧ (st.ev y).slEs es ∧ (st.ev y).slLen ≤ len ∧
          k ({ st with hp := st.hp.set id (.mem false (addRefs refs ((st.ev y).rowIds st.hp)) (rows.take off ++ (st.ev y).rowsOf st.hp ++ rows.drop (off + ((st.ev y).rowsOf st.hp).length))) }.put d (.a (.int .i64 (st.ev y).slLen)))
      | _ => False
    | _ => False) := propext Iff.rfl
@[simp] theorem F_mup : IvcF P (.mup ap kd m key v) k st = (match st.ev m with
    | .mp id => match st.hp.getD id .dead with
      | .map false refs es => (∀ t ∈ ap, (gt st.sl t).oid ≠ some id) ∧ (∀ e ∈ es, e.1.isKey kd = true) ∧ (st.ev key).isKey kd = true ∧
          k { st with hp := st.hp.set id (.map false (addRefs refs (V.idsL [st.ev v])) (putE es (st.ev key) (st.ev v))) }
      | _ => False
    | _ => False) := propext Iff.rfl

end

/-! Calls, as steps. -/
section
variable {P : Program} {k : St → Prop} {st : St} {d : Option Nat} {ap : List Nat} {f : FuncId} {xs : List Operand}
theorem gcall {r0 : V} {zs : List V} (hc : Pf P f zs r0) (ha : xs.map st.ev = zs) (hi : V.idsL zs = []) (hk : k (st.put d r0)) : IvcF P (.call d f xs) k st := call_go hc ha hi hk
theorem gcallo {zs : List V} {r0 : V} {H0 : Heap} (hc : DC P f zs [] fun r H => r = r0 ∧ H = H0) (ha : xs.map st.ev = zs) (hi : V.idsL zs = []) (hf : okFunc P f = true)
    (hk : k ({ st with hp := st.hp ++ H0.map (O.ren (st.hp.length + ·)) }.put d (r0.ren (st.hp.length + ·)))) : IvcF P (.callo d (.func f) xs) k st := callo_go hc ha hi hf hk
theorem gcallm {zs : List V} {H0 : Heap} {r0 : V} {H1 : Heap} (hc : DC P f zs H0 fun r H => r = r0 ∧ H = H1) (sel : List Nat) (hs : clos st.hp 8 (addAll [] (V.idsL (xs.map st.ev))) = sel) (hok : OkSel st.hp sel) (ha : V.renL (idx sel) (xs.map st.ev) = zs) (hH : sub st.hp sel = H0)
    (hf : okFunc P f = true) (hk : k ({ st with hp := merge st.hp sel H1 }.put d (r0.ren (back sel st.hp.length)))) : IvcF P (.callm d (.func f) xs) k st := callm_go hc sel hs hok ha hH hf hk
theorem gcallm1 {zs : List V} {r0 : V} {o o' : O} {H1 : Heap} (hc : DC P f zs [o] fun r H => r = r0 ∧ H = o' :: H1) (p : Nat) (hi : addAll [] (V.idsL (xs.map st.ev)) = [p]) (hp : st.hp[p]? = some o) (c : o.clo) (c' : o'.clo) (c1 : ∀ q ∈ H1, q.clo)
    (ha : V.renL (idx [p]) (xs.map st.ev) = zs) (hf : okFunc P f = true) (hk : k ({ st with hp := st.hp.set p o' ++ H1 }.put d (r0.ren (back [p] st.hp.length)))) : IvcF P (.callm d (.func f) xs) k st := callm_one hc p hi hp c c' c1 ha hf hk
end
end Go.Abs

/- More calls as steps. -/
namespace Go.Abs
set_option linter.unusedVariables false
section
variable {P : Program} {k : St → Prop} {st : St} {d : Option Nat} {ap : List Nat} {f : FuncId} {xs : List Operand}
end
end Go.Abs

namespace Go.Abs.G
open Go.Proofs
set_option linter.unusedVariables false
set_option linter.unusedSimpArgs false

def ri (l : List Int) : List (List V) := l.map fun n => [V.i n]
theorem ri_len (l : List Int) : (ri l).length = l.length := by simp [ri]
theorem ri_ren (f : Nat → Nat) (l : List Int) : (ri l).map (fun r => V.renL f r) = ri l := by simp [ri]
theorem ri_take (l : List Int) (n : Nat) : (ri l).take n = ri (l.take n) := by simp [ri, List.map_take]
theorem cloneI_raw (rows : List (List V)) (hb : (rows.length : Int) * 8 ≤ 140737488355328) (hren : ∀ f, rows.map (fun r => V.renL f r) = rows) : DC Try.prog slices_Clone_Lint_int.id [.view 1 rows] [] (fun r H => r = .own 0 1 0 rows.length rows.length ∧ H = [.mem false [] rows]) := by
  refine DC.picks (Q := fun r H => r = .own 0 1 0 rows.length rows.length ∧ ∃ E, H = .mem false [] rows :: E) ?_ ?_
  rotate_left
  · rintro r H ⟨rfl, E, rfl⟩
    exact ⟨[0], ⟨by simp, by simp, by simp, by simp⟩, by simp, by simp [V.ids], rfl, by simp [sub, hren]⟩
  refine DC.ownnil (Q := fun r H => (rows = [] ∧ r = .a (.slice none 0 0) ∧ H = []) ∨ (r = .own 0 1 0 rows.length rows.length ∧ ∃ E, H = .mem false [] rows :: E)) ?_ ?_
  rotate_left
  · rintro r H (⟨h, rfl, rfl⟩ | ⟨rfl, E, rfl⟩)
    · subst h; exact .inr ⟨1, .inl rfl, rfl, [], rfl⟩
    · exact .inl ⟨rfl, E, rfl⟩
  by_cases hr : rows = []
  · subst hr
    refine DC.view_nil ?_ fun ad c => ?_
    · refine DC.of slices_Clone_Lint_int.ok (by simp) ?_
      simp -dsimp [slices_Clone_Lint_int.ir, slices_Clone_Lint_int.rs]
    · refine DC.of slices_Clone_Lint_int.ok (by simp) ?_
      simp -dsimp [slices_Clone_Lint_int.ir, slices_Clone_Lint_int.rs]
  · refine DC.of slices_Clone_Lint_int.ok (by simp) ?_
    have hl : ¬ (rows.length : Int) = 0 := by
      have := List.length_pos_iff.2 hr
      omega
    simp -dsimp [slices_Clone_Lint_int.ir, slices_Clone_Lint_int.rs, hr, hl, hb]
theorem cloneI_own_raw (rows : List (List V)) (n : Nat) (hn : n ≤ rows.length) (hb : (n : Int) * 8 ≤ 140737488355328) (hren : ∀ f, rows.map (fun r => V.renL f r) = rows) (hren2 : ∀ f, (rows.take n).map (fun r => V.renL f r) = rows.take n) : DC Try.prog slices_Clone_Lint_int.id [.own 0 1 0 n rows.length] [.mem false [] rows] (fun r H => r = .own 1 1 0 n n ∧ H = [.mem false [] rows, .mem false [] (rows.take n)]) := by
  refine DC.picks (Q := fun r H => r = .own 1 1 0 n n ∧ ∃ E, H = .mem false [] rows :: .mem false [] (rows.take n) :: E) ?_ ?_
  rotate_left
  · rintro r H ⟨rfl, E, rfl⟩
    exact ⟨[0, 1], ⟨by simp, by simp, by simp, by simp⟩, by simp, by simp [V.ids], rfl, by simp [sub, hren, hren2]⟩
  refine DC.ownnil (Q := fun r H => (n = 0 ∧ r = .a (.slice none 0 0) ∧ H = [.mem false [] rows]) ∨ (r = .own 1 1 0 n n ∧ ∃ E, H = .mem false [] rows :: .mem false [] (rows.take n) :: E)) ?_ ?_
  rotate_left
  · rintro r H (⟨h, rfl, rfl⟩ | ⟨rfl, E, rfl⟩)
    · subst h; exact .inr ⟨1, .inl rfl, rfl, [], rfl⟩
    · exact .inl ⟨rfl, E, rfl⟩
  by_cases h0 : n = 0
  · subst h0
    refine DC.own0g rfl rfl fun ad c hc => ?_
    cases ad with
    | none =>
      obtain rfl := hc rfl
      refine DC.of slices_Clone_Lint_int.ok (by simp) ?_
      simp -dsimp [slices_Clone_Lint_int.ir, slices_Clone_Lint_int.rs]
    | some ad =>
      refine DC.of slices_Clone_Lint_int.ok (by simp) ?_
      simp -dsimp [slices_Clone_Lint_int.ir, slices_Clone_Lint_int.rs]
  · refine DC.of slices_Clone_Lint_int.ok (by simp) ?_
    have hl : ¬ (n : Int) = 0 := by omega
    have hm : min n rows.length = n := by omega
    simp -dsimp [slices_Clone_Lint_int.ir, slices_Clone_Lint_int.rs, hl, hb, hm, hn]
    exact h0
theorem cloneI (l : List Int) (hb : (l.length : Int) * 8 ≤ 140737488355328) : DC Try.prog slices_Clone_Lint_int.id [vInts l] [] (fun r H => r = .own 0 1 0 l.length l.length ∧ H = [.mem false [] (ri l)]) := by
  have := cloneI_raw (ri l) (by rw [ri_len]; exact hb) fun f => ri_ren f l
  rw [ri_len] at this; exact this
theorem cloneI_own (l : List Int) (n : Nat) (hn : n ≤ l.length) (hb : (n : Int) * 8 ≤ 140737488355328) : DC Try.prog slices_Clone_Lint_int.id [.own 0 1 0 n l.length] [.mem false [] (ri l)] (fun r H => r = .own 1 1 0 n n ∧ H = [.mem false [] (ri l), .mem false [] (ri (l.take n))]) := by
  have := cloneI_own_raw (ri l) n (by rw [ri_len]; exact hn) hb (fun f => ri_ren f l) (fun f => by rw [ri_take]; exact ri_ren f _)
  rw [ri_len, ri_take] at this; exact this

/-- A script. -/
def SC (l : List Int) : O := .mem false [] [[vInts l]]
theorem SC_clo' (l : List Int) : (SC l).clo := ⟨rfl, fun f => by simp [SC, vInts], fun e => by cases e⟩
/-- The document's script. -/
def SR (l : List Int) (k : Nat) : O := .mem false [] [[vInts l, V.i k]]
theorem SR_clo' (l : List Int) (k : Nat) : (SR l k).clo := ⟨rfl, fun f => by simp [SR, vInts], fun e => by cases e⟩
section
variable (l : List Int) (k : Nat)
@[simp] theorem SC_clo : (SC l).clo = True := eq_true (SC_clo' l)
@[simp] theorem SC_isMem : (SC l).isMem = true := rfl
@[simp] theorem SC_refs : (SC l).refs = [] := rfl
@[simp] theorem SC_rows : (SC l).rows = [[vInts l]] := rfl
@[simp] theorem SC_tot (n : Nat) : (SC l).hasTot n = (1 = n) := rfl
@[simp] theorem SC_ren (f : Nat → Nat) : O.ren f (SC l) = SC l := (SC_clo' l).ren f
@[simp] theorem SC_nres : (SC l = .res) = False := eq_false (SC_clo' l).nres
@[simp] theorem SR_clo : (SR l k).clo = True := eq_true (SR_clo' l k)
@[simp] theorem SR_isMem : (SR l k).isMem = true := rfl
@[simp] theorem SR_refs : (SR l k).refs = [] := rfl
@[simp] theorem SR_rows : (SR l k).rows = [[vInts l, V.i k]] := rfl
@[simp] theorem SR_tot (n : Nat) : (SR l k).hasTot n = (1 = n) := rfl
@[simp] theorem SR_ren (f : Nat → Nat) : O.ren f (SR l k) = SR l k := (SR_clo' l k).ren f
@[simp] theorem SR_nres : (SR l k = .res) = False := eq_false (SR_clo' l k).nres
end
theorem new17_spec (l : List Int) (hl : (l.length : Int) * 8 ≤ 140737488355328) : DC Try.prog branch_New.id [vInts l] [] (fun r H => r = .ptr 0 1 0 0 ∧ H = [SC l]) := by
  refine DC.picks (Q := fun r H => r = .ptr 0 1 0 0 ∧ ∃ E, H = SC l :: E) ?_ ?_
  rotate_left
  · rintro r H ⟨rfl, E, rfl⟩
    exact ⟨[0], ⟨by simp, by simp, by simp, by simp⟩, by simp, by simp [V.ids], rfl, by simp [sub]⟩
  refine DC.of branch_New.ok (by simp) ?_
  unfold branch_New.ir
  have h := True.intro
  have ht : List.take l.length (ri l) = ri l := List.take_of_length_le (by rw [ri_len]; exact Nat.le_refl _)
  simp -dsimp []
  refine gcallm (cloneI l hl) [] (by simp -dsimp [h, addAll, vInts]) ⟨by simp, by simp, by simp, by simp⟩ (by simp -dsimp [h, vInts]) (by simp [sub]) (by simp) ?_
  simp -dsimp [h, merge, place, back, branch_New.rs, SC, vInts, ri_ren, ri_len, ht]
  simp [ri]
theorem new17_own (l : List Int) (n : Nat) (hn : n ≤ l.length) (hb : (n : Int) * 8 ≤ 140737488355328) : DC Try.prog branch_New.id [.own 0 1 0 n l.length] [.mem false [] (ri l)] (fun r H => r = .ptr 1 1 0 0 ∧ H = [.mem false [] (ri l), SC (l.take n)]) := by
  refine DC.picks (Q := fun r H => r = .ptr 1 1 0 0 ∧ ∃ E, H = .mem false [] (ri l) :: SC (l.take n) :: E) ?_ ?_
  rotate_left
  · rintro r H ⟨rfl, E, rfl⟩
    exact ⟨[0, 1], ⟨by simp, by simp, by simp, by simp⟩, by simp, by simp [V.ids], rfl, by simp [sub, ri_ren]⟩
  refine DC.of branch_New.ok (by simp) ?_
  unfold branch_New.ir
  have h := True.intro
  have hm : min n l.length = n := by omega
  have ht : List.take n (ri (l.take n)) = ri (l.take n) := List.take_of_length_le (by rw [ri_len, List.length_take]; omega)
  simp -dsimp []
  refine gcallm (cloneI_own l n hn hb) [0] (by simp -dsimp [h, addAll]) ⟨by simp, by simp, by simp, by simp⟩ (by simp -dsimp [h, idx, List.idxOf_cons]) (by simp [sub, ri_ren]) (by simp) ?_
  simp -dsimp [h, merge, place, back, branch_New.rs, SC, vInts, ri_ren, ri_len, hm, ht]
  exact (ri_take l n).symm
theorem copy17_spec (l : List Int) (hl : (l.length : Int) * 8 ≤ 140737488355328) : DC Try.prog branch_Script_Copy.id [.ptr 0 1 0 0] [SC l] (fun r H => r = .ptr 1 1 0 0 ∧ H = [SC l, SC l]) := by
  refine DC.picks (Q := fun r H => r = .ptr 1 1 0 0 ∧ ∃ E, H = SC l :: SC l :: E) ?_ ?_
  rotate_left
  · rintro r H ⟨rfl, E, rfl⟩
    exact ⟨[0, 1], ⟨by simp, by simp, by simp, by simp⟩, by simp, by simp [V.ids], rfl, by simp [sub]⟩
  refine DC.of branch_Script_Copy.ok (by simp) ?_
  unfold branch_Script_Copy.ir
  have h := True.intro
  have ht : List.take l.length (ri l) = ri l := List.take_of_length_le (by rw [ri_len]; exact Nat.le_refl _)
  simp -dsimp [SC]
  refine gcallm (cloneI l hl) [] (by simp -dsimp [h, addAll, vInts]) ⟨by simp, by simp, by simp, by simp⟩ (by simp -dsimp [h, vInts]) (by simp [sub]) (by simp) ?_
  simp -dsimp [h, merge, place, back, branch_Script_Copy.rs, SC, vInts, ri_ren, ri_len, ht]
  simp [ri]
theorem next17_spec (l : List Int) : DC Try.prog branch_list_Next.id [.ptr 0 1 0 0] [SC l] (fun r H => r = V.i (l.headD 0) ∧ H = [SC l.tail]) := by
  refine DC.of branch_list_Next.ok (by simp) ?_
  unfold branch_list_Next.ir
  cases l with
  | nil => simp -dsimp [SC, vInts, branch_list_Next.rs]
  | cons a l =>
    have hn : ¬ ((l.length : Int) + 1 = 0) := by omega
    simp -dsimp [SC, vInts, branch_list_Next.rs, hn]
    exact ⟨by omega, List.take_of_length_le (by simp)⟩
theorem newS_spec (l : List Int) (hl : (l.length : Int) * 8 ≤ 140737488355328) : DC Try.prog hallmarkref17_New.id [vInts l] [] (fun r H => r = .ptr 0 1 0 0 ∧ H = [SR l 0]) := by
  refine DC.picks (Q := fun r H => r = .ptr 1 1 0 0 ∧ ∃ E, H = [E, SR l 0]) ?_ ?_
  rotate_left
  · rintro r H ⟨rfl, E, rfl⟩
    exact ⟨[1], ⟨by simp, by simp, by simp, by simp⟩, by simp, by simp [V.ids], rfl, by simp [sub]⟩
  refine DC.of hallmarkref17_New.ok (by simp) ?_
  unfold hallmarkref17_New.ir
  have ht : List.take l.length (l.map fun n => [V.i n]) = l.map fun n => [V.i n] := List.take_of_length_le (by simp)
  simp -dsimp [SR, vInts, hallmarkref17_New.rs, hl, ht]
theorem nextS_spec (l : List Int) (k : Nat) (hk : k ≤ l.length) (hl : l.length ≤ 1000000) : DC Try.prog hallmarkref17_Script_Next.id [.ptr 0 1 0 0] [SR l k] (fun r H => r = V.i ((l.drop k).headD 0) ∧ H = [SR l (min (k + 1) l.length)]) := by
  refine DC.of hallmarkref17_Script_Next.ok (by simp) ?_
  unfold hallmarkref17_Script_Next.ir
  by_cases h : k < l.length
  · have h' : ¬ (l.length : Int) ≤ k := by omega
    have w1 : IntKind.i64.wrap ((k : Int) + 1) = ((k + 1 : Nat) : Int) := by rw [wrap64] <;> omega
    have w2 : IntKind.i64.wrap (k : Int) = (k : Int) := by rw [wrap64] <;> omega
    have hm : min (k + 1) l.length = k + 1 := by omega
    have hd : (l.drop k).headD 0 = l[k] := by rw [List.drop_eq_getElem_cons h]; rfl
    rw [hm, hd]
    simp -dsimp [SR, vInts, hallmarkref17_Script_Next.rs, h, h', w1, w2]
  · obtain rfl : k = l.length := by omega
    have hm : min (l.length + 1) l.length = l.length := by omega
    rw [hm]
    simp -dsimp [SR, vInts, hallmarkref17_Script_Next.rs]
theorem copyS_spec (l : List Int) (k : Nat) : DC Try.prog hallmarkref17_Script_Copy.id [.ptr 0 1 0 0] [SR l k] (fun r H => r = .ptr 1 1 0 0 ∧ H = [SR l k, SR l k]) := by
  refine DC.of hallmarkref17_Script_Copy.ok (by simp) ?_
  unfold hallmarkref17_Script_Copy.ir
  simp -dsimp [SR, vInts, hallmarkref17_Script_Copy.rs]
end Go.Abs.G

namespace Go.Abs.G
open Go.Proofs
set_option linter.unusedVariables false
set_option linter.unusedSimpArgs false

def isR (d : List (List Int)) (x : Int) : Bool := decide (0 ≤ x) && decide (x < d.length)
def rowR (d : List (List Int)) (x : Int) : List Int := if isR d x then (d[x.toNat]?).getD [] else []
structure DOk (d : List (List Int)) : Prop where
  n : d.length ≤ 64
  l : ∀ l ∈ d, 1 ≤ l.length ∧ l.length ≤ 64
structure ROk (d : List (List Int)) (ms : List (List (List Int))) : Prop where
  d : DOk d
  k : ms.length ≤ 1000000
  m : ∀ e ∈ ms, DOk e

section
variable {d : List (List Int)} {ms : List (List (List Int))} {M : List (List V)}

end
end Go.Abs.G



namespace Go.Abs.G
open Go.Proofs
set_option linter.unusedVariables false
set_option linter.unusedSimpArgs false

section
variable {d : List (List Int)} {D M : List (List V)}

end
end Go.Abs.G



namespace Go.Abs.G
open Go.Proofs
set_option linter.unusedVariables false
set_option linter.unusedSimpArgs false

def leftR (k v : Int) (l : List Int) : List Int := l.filter fun y => !goesB k v y
def cutR (d : List (List Int)) (k x v : Int) : List (List Int) × Bool × Bool :=
  if isR d x = false then (d, false, true)
  else if leftR k v (rowR d x) = [] then (d, false, false)
  else (d.set x.toNat (leftR k v (rowR d x)), decide ((leftR k v (rowR d x)).length < (rowR d x).length), true)

theorem leftR_len (k v : Int) (l : List Int) : (leftR k v l).length ≤ l.length := List.length_filter_le _ _
section
variable {d : List (List Int)} {M : List (List V)}

end
end Go.Abs.G



namespace Go.Abs.G
open Go.Proofs
set_option linter.unusedVariables false
set_option linter.unusedSimpArgs false

section
variable {d : List (List Int)} {M : List (List V)}

end
end Go.Abs.G


namespace Go.Abs.G
open Go.Proofs
set_option linter.unusedVariables false
set_option linter.unusedSimpArgs false

section
variable {d : List (List Int)} {M : List (List V)}

end
end Go.Abs.G


namespace Go.Abs.G
open Go.Proofs
set_option linter.unusedVariables false
set_option linter.unusedSimpArgs false
attribute [local simp] I.vc

end Go.Abs.G



namespace Go.Abs.G
open Go.Proofs
set_option linter.unusedVariables false
set_option linter.unusedSimpArgs false

section
variable {d : List (List Int)} {ms : List (List (List Int))}

end
end Go.Abs.G


namespace Go.Abs.G
open Go.Proofs
set_option linter.unusedVariables false
set_option linter.unusedSimpArgs false

section
variable {d : List (List Int)} {ms : List (List (List Int))}

end
end Go.Abs.G


namespace Go.Abs.G
open Go.Proofs
set_option linter.unusedVariables false
set_option linter.unusedSimpArgs false

def RR (d : List (List Int)) (ms : List (List (List Int))) : O := R1 (dR d) (mR ms)
theorem R1_ren {D M : List (List V)} (hD : flR D) (hM : flR M) (f : Nat → Nat) : O.ren f (R1 D M) = R1 D M := by
  have h : ∀ (D : List (List V)), (∀ f, D.map (V.renL f) = D) → Ce.renR f (flatC D) = flatC D := fun D hD => by
    have hL : ∀ r : List V, Ce.renL f (r.map Ce.v) = (V.renL f r).map Ce.v := fun r => by
      induction r with
      | nil => rfl
      | cons x r ih => simp [Ce.renL, Ce.ren, V.renL, ih]
    have hR : ∀ D : List (List V), Ce.renR f (flatC D) = flatC (D.map (V.renL f)) := fun D => by
      induction D with
      | nil => rfl
      | cons r D ih =>
        have ih' : Ce.renR f (D.map fun r => r.map Ce.v) = (D.map (V.renL f)).map fun r => r.map Ce.v := ih
        simp [flatC, Ce.renR, hL, ih']
    rw [hR, hD]
  simp [R1, O.ren, Ce.renR, Ce.renL, Ce.ren, h D hD.1, h M hM.1]
theorem RR_clo (d : List (List Int)) (ms : List (List (List Int))) : (RR d ms).clo := ⟨rfl, fun f => R1_ren (fl_dR d) (fl_mR ms) f, fun e => by cases e⟩
@[simp ↓ high] theorem RR_clo' (d : List (List Int)) (ms : List (List (List Int))) : (RR d ms).clo = True := eq_true (RR_clo d ms)
@[simp] theorem RR_lim (n : Nat) (d : List (List Int)) (ms : List (List (List Int))) : limO n (RR d ms) = RR d ms := by simp [RR, R1, limO, O.refs]
@[simp] theorem RR_refs (d : List (List Int)) (ms : List (List (List Int))) : (RR d ms).refs = [] := rfl
@[simp] theorem RR_ren (f : Nat → Nat) (d : List (List Int)) (ms : List (List (List Int))) : O.ren f (RR d ms) = RR d ms := R1_ren (fl_dR d) (fl_mR ms) f

section
variable {d : List (List Int)} {ms : List (List (List Int))} (hr : ROk d ms)
include hr
end
end Go.Abs.G



namespace Go.Abs.G
open Go.Proofs
set_option linter.unusedVariables false
set_option linter.unusedSimpArgs false

end Go.Abs.G


namespace Go.Abs.G
open Go.Proofs
set_option linter.unusedVariables false
set_option linter.unusedSimpArgs false

end Go.Abs.G



namespace Go.Abs.G
open Go.Proofs
set_option linter.unusedVariables false
set_option linter.unusedSimpArgs false

end Go.Abs.G


namespace Go.Abs.G
open Go.Proofs
set_option linter.unusedVariables false
set_option linter.unusedSimpArgs false

end Go.Abs.G


namespace Go.Abs.G
open Go.Proofs
set_option linter.unusedVariables false
set_option linter.unusedSimpArgs false

end Go.Abs.G


namespace Go.Abs.G
open Go.Proofs
set_option linter.unusedVariables false
set_option linter.unusedSimpArgs false

end Go.Abs.G


namespace Go.Abs.G
open Go.Proofs
set_option linter.unusedVariables false
set_option linter.unusedSimpArgs false

end Go.Abs.G


namespace Go.Abs.G
open Go.Proofs
set_option linter.unusedVariables false
set_option linter.unusedSimpArgs false

end Go.Abs.G


namespace Go.Abs.G
open Go.Proofs
set_option linter.unusedVariables false
set_option linter.unusedSimpArgs false

def runR (lo : Int) (n : Nat) : List Int := (List.range n).map fun (i : Nat) => lo + (i : Int)
@[simp] theorem runR_len (lo : Int) (n : Nat) : (runR lo n).length = n := by simp [runR]
end Go.Abs.G


namespace Go.Abs.G
open Go.Proofs
set_option linter.unusedVariables false
set_option linter.unusedSimpArgs false

@[simp ↓ high] theorem St1_tree (s : List Dom) (T : List (List Ce)) : (St1 s T).isTree = true := rfl
@[simp ↓ high] theorem St1_trows (s : List Dom) (T : List (List Ce)) : (St1 s T).trows = 1 := rfl
@[simp ↓ high] theorem St1_isMem (s : List Dom) (T : List (List Ce)) : (St1 s T).isMem = false := rfl
@[simp ↓ high] theorem St1_refs (s : List Dom) (T : List (List Ce)) : (St1 s T).refs = [] := rfl
@[simp ↓ high] theorem St1_lim' (n : Nat) (s : List Dom) (T : List (List Ce)) : limO n (St1 s T) = St1 s T := St1_lim n s T
@[simp ↓ high] theorem St1_ren (f : Nat → Nat) (s : List Dom) (ms : List (List Dom)) : O.ren f (St1 s (mT ms)) = St1 s (mT ms) := by
  simp [St1, O.ren, Ce.renR, Ce.renL, Ce.ren, domCe_ren, mT_ren]
@[simp] theorem St1_clo (s : List Dom) (ms : List (List Dom)) : (St1 s (mT ms)).clo := ⟨rfl, fun f => St1_ren f s ms, fun e => by cases e⟩

end Go.Abs.G


namespace Go.Abs.G
open Go.Proofs
set_option linter.unusedVariables false
set_option linter.unusedSimpArgs false

structure DOp where
  kind : Int
  ck : Int
  cx : Int
  cv : Int
  n : Int
structure DCut where
  k : Int
  x : Int
  v : Int
def DOp.cells (o : DOp) : List V := [V.i o.kind, V.i o.ck, V.i o.cx, V.i o.cv, V.i o.n]
def DCut.cells (c : DCut) : List V := [V.i c.k, V.i c.x, V.i c.v]
structure SG (s : List Dom) (ms : List (List Dom)) : Prop extends SOk s ms where
  L : ∀ L ∈ ms, L.length ≤ 64 ∧ ∀ d ∈ L, d.ok

theorem cutS_cases (s : List Dom) (k x v : Int) : (cutS s k x v).1 = s ∨ ∃ d, s[x.toNat]? = some d ∧ (cutS s k x v).1 = s.set x.toNat (cutTo k v d d.width) := by
  unfold cutS
  split
  · split
    · next d e => split
                  · exact .inl rfl
                  · exact .inr ⟨d, e, rfl⟩
    · exact .inl rfl
  · exact .inl rfl
theorem cutS_len (s : List Dom) (k x v : Int) : (cutS s k x v).1.length = s.length := by
  rcases cutS_cases s k x v with e | ⟨d, _, e⟩ <;> rw [e]; simp
theorem cutS_ok {s : List Dom} (k x v : Int) (h : ∀ d ∈ s, d.ok) : ∀ d ∈ (cutS s k x v).1, d.ok := by
  rcases cutS_cases s k x v with e | ⟨d, hd, e⟩ <;> rw [e]
  · exact h
  · intro d' hd'
    rcases List.mem_or_eq_of_mem_set hd' with h' | rfl
    · exact h d' h'
    · exact cutTo_ok k v (h d (List.mem_of_getElem? hd)) _
theorem SG.cut {s : List Dom} {ms : List (List Dom)} (h : SG s ms) (k x v : Int) : SG (cutS s k x v).1 ms :=
  ⟨⟨by rw [cutS_len]; exact h.n, h.k, cutS_ok k x v h.d⟩, h.L⟩

end Go.Abs.G


namespace Go.Abs.G
open Go.Proofs
set_option linter.unusedVariables false
set_option linter.unusedSimpArgs false

theorem drop_has {d : Dom} (h : d.ok) {k i : Nat} (hk : k < 64) (hi : i < 64) : (d.drop k).has i = (d.has i && !decide (i = k)) := by
  unfold Dom.drop Dom.has
  by_cases h1 : k < 32
  · rw [if_pos h1]
    by_cases h2 : i < 32
    · simp only [h2, if_true]; exact clr_bit h.a h1 i
    · simp only [h2, if_false]
      have : i ≠ k := by omega
      simp [this]
  · rw [if_neg h1]
    by_cases h2 : i < 32
    · simp only [h2, if_true]
      have : i ≠ k := by omega
      simp [this]
    · simp only [h2, if_false]
      rw [clr_bit h.b (by omega)]
      have : (i - 32 = k - 32) ↔ i = k := by omega
      simp [this]

theorem cutTo_has (k v : Int) {d : Dom} (h : d.ok) : ∀ n, n ≤ 64 → ∀ i, i < 64 → (cutTo k v d n).has i = (d.has i && !(decide (i < n) && goesB k v (d.from' + i))) := by
  intro n
  induction n with
  | zero => intro _ i _; simp [cutTo]
  | succ n ih =>
    intro hn i hi
    have ih := ih (by omega) i hi
    unfold cutTo
    have hin : i < n + 1 ↔ (i < n ∨ i = n) := by omega
    split
    · next hg =>
      rw [drop_has (cutTo_ok k v h n) (by omega) hi, ih]
      by_cases hi2 : i = n
      · subst hi2; simp [hg]
      · have : decide (i < n + 1) = decide (i < n) := by simp; omega
        simp [hi2, this]
    · next hg =>
      rw [ih]
      by_cases hi2 : i = n
      · subst hi2
        have : goesB k v (d.from' + i) = false := by simpa using hg
        simp [this]
      · have : decide (i < n + 1) = decide (i < n) := by simp; omega
        rw [this]

def NE (s : List Dom) : Prop := ∀ d ∈ s, d.none = false
theorem NE.cut {s : List Dom} (h : NE s) (k x v : Int) : NE (cutS s k x v).1 := by
  unfold cutS
  split
  · split
    · next d e =>
      split
      · exact h
      · next hn =>
        intro d' hd'
        rcases List.mem_or_eq_of_mem_set hd' with h' | rfl
        · exact h d' h'
        · simpa using hn
    · exact h
  · exact h
theorem add_has {d : Dom} (h : d.ok) {k i : Nat} (hk : k < 64) (hi : i < 64) : (d.add k).has i = (d.has i || decide (i = k)) := by
  unfold Dom.add Dom.has
  by_cases h1 : k < 32
  · rw [if_pos h1]
    by_cases h2 : i < 32
    · simp only [h2, if_true]; exact sett_bit h.a h1 i
    · simp only [h2, if_false]
      have : i ≠ k := by omega
      simp [this]
  · rw [if_neg h1]
    by_cases h2 : i < 32
    · simp only [h2, if_true]
      have : i ≠ k := by omega
      simp [this]
    · simp only [h2, if_false]
      rw [sett_bit h.b (by omega)]
      have : (i - 32 = k - 32) ↔ i = k := by omega
      simp [this]
theorem fillTo_has {d : Dom} (h : d.ok) : ∀ n, n ≤ 64 → ∀ i, i < 64 → (fillTo d n).has i = (d.has i || decide (i < n)) := by
  intro n
  induction n with
  | zero => intro _ i _; simp [fillTo]
  | succ n ih =>
    intro hn i hi
    have ih := ih (by omega) i hi
    unfold fillTo
    rw [add_has (fillTo_ok h n) (by omega) hi, ih]
    by_cases h1 : i = n
    · subst h1; simp
    · have : decide (i < n + 1) = decide (i < n) := by simp; omega
      simp [h1, this]
theorem domOf_width (v : Var) : (domOf v).width = (v.hi - v.lo + 1).toNat := fillTo_width _ _
theorem domOf_has {v : Var} (h : VarOk v) {i : Nat} (hi : i < (domOf v).width) : (domOf v).has i = true := by
  have hok := dom0_ok h
  have hw := hok.w
  rw [domOf_width] at hi
  have hi' : i < (dom0 v).width := hi
  unfold domOf
  rw [fillTo_has hok _ hw i (by omega)]
  simp [hi']
theorem none_of_has {d : Dom} {i : Nat} (h : d.has i = true) : d.none = false := by
  unfold Dom.none
  unfold Dom.has at h
  split at h
  · have : d.a ≠ 0 := fun e => by rw [e] at h; simp at h
    simp [this]
  · have : d.b ≠ 0 := fun e => by rw [e] at h; simp at h
    simp [this]

theorem vals_eq {d d' : Dom} (hf : d'.from' = d.from') (hw : d'.width = d.width) (hh : ∀ i, i < d.width → d'.has i = d.has i) : d'.vals d'.width = d.vals d.width := by
  unfold Dom.vals
  rw [hw, hf]
  congr 1
  refine List.filter_congr fun i hi => ?_
  exact hh i (List.mem_range.1 hi)

end Go.Abs.G


/- What the reference's store tells is what the store tells. -/
namespace Go.Abs.G
set_option linter.unusedVariables false
set_option linter.unusedSimpArgs false

structure DG (x : Dom) : Prop where
  ok : x.ok
  full : ∀ i, i < 64 → x.width ≤ i → x.has i = false
  ne : x.none = false
def refD (s : List Dom) : List (List Int) := s.map fun x => x.vals x.width

theorem refD_len (s : List Dom) : (refD s).length = s.length := by simp [refD]
theorem is_ref (s : List Dom) (x : Int) : isR (refD s) x = isB s x := by simp [isR, isB, refD_len]
theorem row_ref (s : List Dom) (x : Int) : rowR (refD s) x = valsB s x := by
  unfold rowR valsB
  rw [is_ref]
  by_cases h : isB s x = true
  · rw [if_pos h, if_pos h]; simp [refD, List.getElem?_map]
  · rw [if_neg h, if_neg h]
theorem size_has {x : Dom} (h : x.ok) : x.size = (List.range 64).countP x.has := by
  have e : (List.range 64) = List.range 32 ++ (List.range 32).map (32 + ·) := by rw [← List.range_add]
  rw [e, List.countP_append, List.countP_map]
  unfold Dom.size pop
  have h1 : (List.range 32).countP x.has = (List.range 32).countP x.a.testBit := List.countP_congr fun i hi => by
    have : i < 32 := by simpa using hi
    simp [Dom.has, this]
  have h2 : (List.range 32).countP (x.has ∘ (32 + ·)) = (List.range 32).countP x.b.testBit := List.countP_congr fun i hi => by
    have h2 : ¬ 32 + i < 32 := by omega
    simp [Dom.has, h2, Function.comp]
  rw [h1, h2]
theorem size_ref {x : Dom} (h : DG x) : x.size = (x.vals x.width).length := by
  have hw := h.ok.w
  obtain ⟨r, hr⟩ : ∃ r, 64 = x.width + r := ⟨64 - x.width, by omega⟩
  rw [size_has h.ok, hr, List.range_add, List.countP_append, List.countP_map]
  have : (List.range r).countP (x.has ∘ (x.width + ·)) = 0 := by
    rw [List.countP_eq_zero]
    intro i hi
    have : i < r := by simpa using hi
    simp [h.full (x.width + i) (by omega) (by omega)]
  rw [this, Dom.vals, List.length_map, List.countP_eq_length_filter, Nat.add_zero]
theorem mem_vals {x : Dom} {v : Int} : v ∈ x.vals x.width ↔ ∃ i : Nat, i < x.width ∧ x.has i = true ∧ v = x.from' + i := by
  simp only [Dom.vals, List.mem_map, List.mem_filter, List.mem_range]
  constructor
  · rintro ⟨i, ⟨a, b⟩, c⟩; exact ⟨i, a, b, c.symm⟩
  · rintro ⟨i, a, b, c⟩; exact ⟨i, ⟨a, b⟩, c.symm⟩
end Go.Abs.G


namespace Go.Abs.G
set_option linter.unusedVariables false
set_option linter.unusedSimpArgs false

theorem none_has {d : Dom} (h : d.none = true) (i : Nat) : d.has i = false := by
  simp [Dom.none] at h
  unfold Dom.has
  rw [h.1, h.2]
  split <;> simp
theorem has_eq {d e : Dom} (hd : d.ok) (he : e.ok) (h : ∀ i, i < 64 → d.has i = e.has i) : d.a = e.a ∧ d.b = e.b := by
  constructor
  · refine Nat.eq_of_testBit_eq fun i => ?_
    by_cases hi : i < 32
    · have := h i (by omega); simpa [Dom.has, hi] using this
    · rw [Nat.testBit_lt_two_pow (Nat.lt_of_lt_of_le (show d.a < 2 ^ 32 from hd.a) (Nat.pow_le_pow_right (by omega) (by omega : 32 ≤ i))), Nat.testBit_lt_two_pow (Nat.lt_of_lt_of_le (show e.a < 2 ^ 32 from he.a) (Nat.pow_le_pow_right (by omega) (by omega : 32 ≤ i)))]
  · refine Nat.eq_of_testBit_eq fun i => ?_
    by_cases hi : i < 32
    · have := h (32 + i) (by omega); have h2 : ¬ 32 + i < 32 := by omega
      simpa [Dom.has, h2] using this
    · rw [Nat.testBit_lt_two_pow (Nat.lt_of_lt_of_le (show d.b < 2 ^ 32 from hd.b) (Nat.pow_le_pow_right (by omega) (by omega : 32 ≤ i))), Nat.testBit_lt_two_pow (Nat.lt_of_lt_of_le (show e.b < 2 ^ 32 from he.b) (Nat.pow_le_pow_right (by omega) (by omega : 32 ≤ i)))]

section
variable {d : Dom} (h : DG d) (k v : Int)
include h
theorem cut_has (i : Nat) (hi : i < 64) : (cutTo k v d d.width).has i = (d.has i && !(decide (i < d.width) && goesB k v (d.from' + i))) := cutTo_has k v h.ok d.width h.ok.w i hi
theorem cut_vals : (cutTo k v d d.width).vals (cutTo k v d d.width).width = leftR k v (d.vals d.width) := by
  have hw := h.ok.w
  rw [cutTo_width]
  unfold Dom.vals leftR
  rw [List.filter_map, List.filter_filter, cutTo_from]
  congr 1
  refine List.filter_congr fun i hi => ?_
  have hi : i < d.width := by simpa using hi
  rw [cut_has h k v i (by omega)]
  simp [hi, Function.comp, Bool.and_comm]
theorem cut_none : (cutTo k v d d.width).none = decide (leftR k v (d.vals d.width) = []) := by
  have hw := h.ok.w
  have hok := cutTo_ok k v h.ok d.width
  rw [← cut_vals h k v, Bool.eq_iff_iff, decide_eq_true_eq]
  constructor
  · intro hn
    refine List.eq_nil_iff_forall_not_mem.2 fun u hu => ?_
    obtain ⟨i, a, b, c⟩ := mem_vals.1 hu
    rw [none_has hn] at b; cases b
  · intro he
    have : (cutTo k v d d.width).a = 0 ∧ (cutTo k v d d.width).b = 0 := has_eq (e := ⟨d.from', d.width, 0, 0⟩) hok ⟨h.ok.f, h.ok.w, by simp, by simp⟩ fun i hi => by
      have hz : (⟨d.from', d.width, 0, 0⟩ : Dom).has i = false := none_has rfl i
      rw [hz]
      by_cases hiw : i < d.width
      · cases hb : (cutTo k v d d.width).has i
        · rfl
        · have := mem_vals.2 ⟨i, by rw [cutTo_width]; exact hiw, hb, rfl⟩
          rw [he] at this; cases this
      · rw [cut_has h k v i hi, h.full i hi (by omega)]; rfl
    simp [Dom.none, this]
theorem cut_same : (!(cutTo k v d d.width).same d) = decide ((leftR k v (d.vals d.width)).length < (d.vals d.width).length) := by
  have hw := h.ok.w
  have hok := cutTo_ok k v h.ok d.width
  cases hs : (cutTo k v d d.width).same d
  · symm
    simp only [Bool.not_false, decide_eq_true_eq]
    refine Nat.lt_of_le_of_ne (leftR_len k v _) fun e => ?_
    have hall : leftR k v (d.vals d.width) = d.vals d.width := List.filter_sublist.eq_of_length e
    have := has_eq hok h.ok fun i hi => by
      by_cases hiw : i < d.width
      · rw [cut_has h k v i hi]
        cases hb : d.has i
        · rfl
        · have hm : d.from' + (i : Int) ∈ d.vals d.width := mem_vals.2 ⟨i, hiw, hb, rfl⟩
          rw [← hall] at hm
          have := (List.mem_filter.1 hm).2
          simp at this
          simp [this]
      · rw [cut_has h k v i hi, h.full i hi (by omega)]; rfl
    simp [Dom.same, this] at hs
  · symm
    simp only [Bool.not_true, decide_eq_false_iff_not]
    simp [Dom.same] at hs
    have : leftR k v (d.vals d.width) = d.vals d.width := by
      rw [← cut_vals h k v]
      refine vals_eq (cutTo_from k v d d.width) (cutTo_width k v d d.width) fun i _ => ?_
      unfold Dom.has; rw [hs.1, hs.2]
    rw [this]; omega
theorem cut_DG (hn : leftR k v (d.vals d.width) ≠ []) : DG (cutTo k v d d.width) := by
  refine ⟨cutTo_ok k v h.ok d.width, fun i hi hw => ?_, ?_⟩
  · rw [cutTo_width] at hw
    rw [cut_has h k v i hi, h.full i hi hw]; rfl
  · rw [cut_none h k v]; simpa using hn
end

theorem cut_ref {s : List Dom} (hs : ∀ d ∈ s, DG d) (k x v : Int) : cutR (refD s) k x v = (refD (cutS s k x v).1, (cutS s k x v).2) ∧ ∀ d ∈ (cutS s k x v).1, DG d := by
  unfold cutR cutS
  rw [is_ref]
  by_cases hb : isB s x = true
  · have hb2 := hb
    simp [isB] at hb2
    have hlt : x.toNat < s.length := by omega
    obtain ⟨d, hd⟩ : ∃ d, s[x.toNat]? = some d := ⟨_, List.getElem?_eq_getElem hlt⟩
    have hdg := hs d (List.mem_of_getElem? hd)
    have hrow : rowR (refD s) x = d.vals d.width := by
      rw [row_ref]; unfold valsB; rw [if_pos hb, hd]; rfl
    rw [hrow, hb, if_neg (by simp), if_pos rfl, hd]
    simp only [cut_none hdg k v, cut_same hdg k v, decide_eq_true_eq]
    by_cases hn : leftR k v (d.vals d.width) = []
    · rw [if_pos hn, if_pos hn]
      exact ⟨rfl, hs⟩
    · rw [if_neg hn, if_neg hn]
      refine ⟨?_, fun e he => ?_⟩
      · simp only [refD, List.map_set, cut_vals hdg k v]
      · rcases List.mem_or_eq_of_mem_set he with h | h
        · exact hs e h
        · rw [h]; exact cut_DG hdg k v hn
  · have hf : isB s x = false := by simpa using hb
    rw [hf]
    simp
    exact hs
end Go.Abs.G


namespace Go.Abs.G
set_option linter.unusedVariables false
set_option linter.unusedSimpArgs false

theorem domOf_DG {v : Var} (h : VarOk v) : DG (domOf v) := by
  have hok := dom0_ok h
  refine ⟨fillTo_ok hok _, fun i hi hw => ?_, none_of_has (domOf_has h (i := 0) ?_)⟩
  · rw [domOf_width] at hw
    unfold domOf
    rw [fillTo_has hok (dom0 v).width hok.w i hi]
    have hz : (dom0 v).has i = false := none_has rfl i
    have : ¬ i < (dom0 v).width := by simp only [dom0]; omega
    rw [hz]; simp [this]
  · rw [domOf_width]
    obtain ⟨a, b, c, e⟩ := h
    omega
theorem doms_DG (m : Model) : ∀ d ∈ domsOf m, DG d := by
  unfold domsOf
  by_cases hz : (checkB m).2 = 0
  · have hR : Right m := right_iff.1 (by simp [rightB, hz])
    rw [if_pos hz]
    intro d hd
    simp only [List.mem_map] at hd
    obtain ⟨v, hv, rfl⟩ := hd
    obtain ⟨i, hi⟩ := List.getElem?_of_mem hv
    exact domOf_DG (VarOk.of (hR.var i v hi))
  · rw [if_neg hz]; intro d hd; cases hd
theorem doms_len (m : Model) : (domsOf m).length ≤ 64 := by
  unfold domsOf
  by_cases hz : (checkB m).2 = 0
  · have hR : Right m := right_iff.1 (by simp [rightB, hz])
    have := hR.nv
    rw [if_pos hz, List.length_map]; omega
  · rw [if_neg hz]; simp

/-- Both stores, with all marks, tell the same. -/
structure Two (s : List Dom) (ms : List (List Dom)) : Prop where
  n : s.length ≤ 64
  k : ms.length ≤ 1000000
  d : ∀ d ∈ s, DG d
  m : ∀ L ∈ ms, L.length ≤ 64 ∧ ∀ d ∈ L, DG d
theorem Two.sok {s : List Dom} {ms : List (List Dom)} (h : Two s ms) : SOk s ms := ⟨h.n, h.k, fun d hd => (h.d d hd).ok⟩
theorem Two.new (m : Model) : Two (domsOf m) [] := ⟨doms_len m, by simp, doms_DG m, fun L hL => by cases hL⟩
theorem Two.cut {s : List Dom} {ms : List (List Dom)} (h : Two s ms) (k x v : Int) : Two (cutS s k x v).1 ms := ⟨by rw [cutS_len]; exact h.n, h.k, (cut_ref h.d k x v).2, h.m⟩
theorem Two.mark {s : List Dom} {ms : List (List Dom)} (h : Two s ms) (hk : ms.length + 1 ≤ 1000000) : Two s (ms ++ [s]) := ⟨h.n, by simpa using hk, h.d, fun L hL => by
  rcases List.mem_append.1 hL with hL | hL
  · exact h.m L hL
  · rw [List.mem_singleton.1 hL]; exact ⟨h.n, h.d⟩⟩
theorem Two.back {s : List Dom} {ms : List (List Dom)} (h : Two s ms) {j : Nat} (hj : j < ms.length) : Two ms[j] (ms.take j) := ⟨(h.m _ (List.getElem_mem hj)).1, Nat.le_trans (by simp; omega) h.k, (h.m _ (List.getElem_mem hj)).2, fun L hL => h.m L (List.mem_of_mem_take hL)⟩
end Go.Abs.G


/- Both stores under one name each, with their calls. -/
namespace Go.Abs.G
open Go.Proofs
set_option linter.unusedVariables false
set_option linter.unusedSimpArgs false

theorem vals_ne {s : List Dom} (h : ∀ d ∈ s, DG d) {x : Int} (hx : isB s x = true) : valsB s x ≠ [] := by
  unfold valsB
  rw [if_pos hx]
  have hl : 0 ≤ x ∧ x < s.length := by simpa [isB] using hx
  obtain ⟨i, rfl⟩ : ∃ i : Nat, x = i := ⟨x.toNat, by omega⟩
  have hi : i < s.length := by omega
  have hd := h _ (List.getElem_mem hi)
  simp only [Int.toNat_natCast, List.getElem?_eq_getElem hi, Option.map_some, Option.getD_some]
  intro e
  have hn := hd.ne
  have hz : ∀ j, j < 64 → (s[i]).has j = false := fun j hj => by
    by_cases hw : j < (s[i]).width
    · cases hh : (s[i]).has j
      · rfl
      · have : (s[i]).from' + (j : Int) ∈ (s[i]).vals (s[i]).width := mem_vals.2 ⟨j, hw, hh, rfl⟩
        rw [e] at this; cases this
    · exact hd.full j hj (by omega)
  have ha : (s[i]).a = 0 := Nat.eq_of_testBit_eq fun j => by
    by_cases hj : j < 32
    · have := hz j (by omega); simpa [Dom.has, hj] using this
    · rw [Nat.zero_testBit]; exact Nat.testBit_lt_two_pow (Nat.lt_of_lt_of_le hd.ok.a (by
        have : (2 : Nat) ^ 32 ≤ 2 ^ j := Nat.pow_le_pow_right (by omega) (by omega)
        simpa using this))
  have hb : (s[i]).b = 0 := Nat.eq_of_testBit_eq fun j => by
    by_cases hj : j < 32
    · have h2 : ¬ j + 32 < 32 := by omega
      have := hz (j + 32) (by omega); simpa [Dom.has, h2] using this
    · rw [Nat.zero_testBit]; exact Nat.testBit_lt_two_pow (Nat.lt_of_lt_of_le hd.ok.b (by
        have : (2 : Nat) ^ 32 ≤ 2 ^ j := Nat.pow_le_pow_right (by omega) (by omega)
        simpa using this))
  simp [Dom.none, ha, hb] at hn
theorem vals_no {s : List Dom} {x : Int} (hx : isB s x = false) : valsB s x = [] := by simp [valsB, hx]
theorem vals_at {s : List Dom} {i : Nat} (hi : i < s.length) : valsB s i = (s[i]).vals (s[i]).width := by
  have : isB s i = true := by simp [isB, hi]
  simp [valsB, this, hi]
theorem vals_mem {s : List Dom} (h : ∀ d ∈ s, DG d) {x v : Int} (hv : v ∈ valsB s x) : isB s x = true ∧ -1000000000 ≤ v ∧ v < 1000000064 := by
  cases hx : isB s x
  · rw [vals_no hx] at hv; cases hv
  · have hl : 0 ≤ x ∧ x < s.length := by simpa [isB] using hx
    obtain ⟨i, rfl⟩ : ∃ i : Nat, x = i := ⟨x.toNat, by omega⟩
    have hi : i < s.length := by omega
    have hd := h _ (List.getElem_mem hi)
    rw [vals_at hi] at hv
    obtain ⟨j, hj, _, rfl⟩ := mem_vals.1 hv
    have := hd.ok.f; have := hd.ok.w
    exact ⟨rfl, by omega, by omega⟩
/-- Rising: no value twice. -/
theorem vals_up (d : Dom) (n : Nat) : (d.vals n).Pairwise (· < ·) := by
  unfold Dom.vals
  rw [List.pairwise_map]
  refine List.Pairwise.imp (R := fun (a b : Nat) => a < b) (fun h => by omega) ?_
  exact List.Pairwise.filter _ List.pairwise_lt_range
theorem valsB_up (s : List Dom) (x : Int) : (valsB s x).Pairwise (· < ·) := by
  unfold valsB
  split
  · cases s[x.toNat]? <;> simp [vals_up]
  · exact .nil
def loB (s : List Dom) (x : Int) : Int := (valsB s x).headD 0
def hiB (s : List Dom) (x : Int) : Int := (valsB s x).getLastD 0
theorem head_mem {l : List Int} (h : l ≠ []) : l.headD 0 ∈ l := by cases l with | nil => exact (h rfl).elim | cons a l => simp
theorem last_mem {l : List Int} (h : l ≠ []) : l.getLastD 0 ∈ l := by
  rw [List.getLastD_eq_getLast?, List.getLast?_eq_some_getLast h]; exact List.getLast_mem h
theorem lo_range {s : List Dom} (h : ∀ d ∈ s, DG d) (x : Int) : -1000000000 ≤ loB s x ∧ loB s x < 1000000064 := by
  by_cases e : valsB s x = []
  · simp [loB, e]
  · exact (vals_mem h (head_mem e)).2
theorem hi_range {s : List Dom} (h : ∀ d ∈ s, DG d) (x : Int) : -1000000000 ≤ hiB s x ∧ hiB s x < 1000000064 := by
  by_cases e : valsB s x = []
  · simp [hiB, e]
  · exact (vals_mem h (last_mem e)).2
/-- Fewer than 64 between the ends. -/
theorem vals_span {s : List Dom} (h : ∀ d ∈ s, DG d) (x : Int) : hiB s x - loB s x < 64 := by
  by_cases e : valsB s x = []
  · simp [loB, hiB, e]
  · have h1 := head_mem e; have h2 := last_mem e
    obtain ⟨hx, _⟩ := vals_mem h h1
    have hl : 0 ≤ x ∧ x < s.length := by simpa [isB] using hx
    obtain ⟨i, rfl⟩ : ∃ i : Nat, x = i := ⟨x.toNat, by omega⟩
    have hi : i < s.length := by omega
    have hd := (h _ (List.getElem_mem hi)).ok.w
    change hiB s i ∈ _ at h2; change loB s i ∈ _ at h1
    rw [vals_at hi] at h1 h2
    obtain ⟨j, hj, _, e1⟩ := mem_vals.1 h1
    obtain ⟨k, hk, _, e2⟩ := mem_vals.1 h2
    omega

/-- The program's store, the document's: each one object. -/
def ST (s : List Dom) (ms : List (List Dom)) : O := St1 s (mT ms)
def RT (s : List Dom) (ms : List (List Dom)) : O := RR (refD s) (ms.map refD)
theorem ST_nres (s : List Dom) (ms : List (List Dom)) : ST s ms ≠ .res := fun e => by cases e
theorem RT_nres (s : List Dom) (ms : List (List Dom)) : RT s ms ≠ .res := fun e => by cases e
theorem ST_clo' (s : List Dom) (ms : List (List Dom)) : (ST s ms).clo := St1_clo s ms
theorem RT_clo' (s : List Dom) (ms : List (List Dom)) : (RT s ms).clo := RR_clo _ _
section
variable (s : List Dom) (ms : List (List Dom))
@[simp high] theorem ST_isMem : (ST s ms).isMem = false := rfl
@[simp high] theorem RT_isMem : (RT s ms).isMem = false := rfl
@[simp high] theorem ST_isTree : (ST s ms).isTree = true := rfl
@[simp high] theorem RT_isTree : (RT s ms).isTree = true := rfl
@[simp high] theorem ST_trows : (ST s ms).trows = 1 := rfl
@[simp high] theorem RT_trows : (RT s ms).trows = 1 := rfl
@[simp high] theorem ST_refs : (ST s ms).refs = [] := rfl
@[simp high] theorem RT_refs : (RT s ms).refs = [] := rfl
@[simp high] theorem ST_tot : (ST s ms).hasTot 1 = True := by simp [ST, St1, O.hasTot]
@[simp high] theorem RT_tot : (RT s ms).hasTot 1 = True := by simp [RT, RR, R1, O.hasTot]
@[simp] theorem ST_nres' : (ST s ms = .res) = False := eq_false (ST_nres s ms)
@[simp] theorem RT_nres' : (RT s ms = .res) = False := eq_false (RT_nres s ms)
@[simp] theorem ST_clo : (ST s ms).clo = True := eq_true (ST_clo' s ms)
@[simp] theorem RT_clo : (RT s ms).clo = True := eq_true (RT_clo' s ms)
@[simp high] theorem ST_ren (f : Nat → Nat) : O.ren f (ST s ms) = ST s ms := (ST_clo' s ms).ren f
@[simp high] theorem RT_ren (f : Nat → Nat) : O.ren f (RT s ms) = RT s ms := (RT_clo' s ms).ren f
@[simp high] theorem ST_lim (n : Nat) : limO n (ST s ms) = ST s ms := by simp [ST]
@[simp high] theorem RT_lim (n : Nat) : limO n (RT s ms) = RT s ms := by simp [RT, RR, R1, limO, O.refs]
end

@[simp high] theorem ren_vInts (f : Nat → Nat) (l : List Int) : V.ren f (vInts l) = vInts l := by
  simp only [vInts, V.ren]
section
variable {s : List Dom} {ms : List (List Dom)} (h : Two s ms)
include h
theorem openT : DC Try.prog dom_Store_Open.id [.ptr 0 1 0 0] [ST s ms] fun r H => r = vInts (openB s s.length) ∧ H = [ST s ms] := openP h.sok
theorem loT (x : Int) : DC Try.prog dom_Store_Lo.id [.ptr 0 1 0 0, V.i x] [ST s ms] fun r H => r = V.i (loB s x) ∧ H = [ST s ms] := by
  refine DC.to (loP h.sok x fun hx => vals_ne h.d hx) ⟨?_, rfl⟩
  cases hx : isB s x
  · simp [loB, vals_no hx]
  · simp [loB]
theorem hiT (x : Int) : DC Try.prog dom_Store_Hi.id [.ptr 0 1 0 0, V.i x] [ST s ms] fun r H => r = V.i (hiB s x) ∧ H = [ST s ms] := by
  refine DC.to (hiP h.sok x fun hx => vals_ne h.d hx) ⟨?_, rfl⟩
  cases hx : isB s x
  · simp [hiB, vals_no hx]
  · simp [hiB]
end
theorem newT (m : Model) (hm : okModel m) : DC Try.prog dom_New.id [.agg m.cells] [] (fun r H => r = .ptr 0 1 0 0 ∧ H = [ST (domsOf m) []]) := newP1 m hm
end Go.Abs.G


/- What a cut makes of the values; what is open. -/
namespace Go.Abs.G
open Go.Proofs
set_option linter.unusedVariables false

theorem isB_iff {s : List Dom} {x : Int} : isB s x = true ↔ 0 ≤ x ∧ x < s.length := by simp [isB]
theorem open_mem {s : List Dom} (h : ∀ d ∈ s, DG d) {x : Int} : x ∈ openB s s.length ↔ isB s x = true ∧ 1 < (valsB s x).length := by
  unfold openB
  simp only [List.mem_map, List.mem_filter, List.mem_range, decide_eq_true_eq]
  constructor
  · rintro ⟨i, ⟨hi, h1⟩, rfl⟩
    refine ⟨isB_iff.2 ⟨by omega, by omega⟩, ?_⟩
    rw [vals_at hi, ← size_ref (h _ (List.getElem_mem hi))]
    simpa [List.getElem?_eq_getElem hi] using h1
  · rintro ⟨hx, h1⟩
    obtain ⟨h0, h2⟩ := isB_iff.1 hx
    obtain ⟨i, rfl⟩ : ∃ i : Nat, x = i := ⟨x.toNat, by omega⟩
    have hi : i < s.length := by omega
    refine ⟨i, ⟨hi, ?_⟩, rfl⟩
    rw [vals_at hi, ← size_ref (h _ (List.getElem_mem hi))] at h1
    simpa [List.getElem?_eq_getElem hi] using h1
theorem lo_lt_hi {s : List Dom} {x : Int} (h1 : 1 < (valsB s x).length) : loB s x < hiB s x := by
  have hp := valsB_up s x
  unfold loB hiB
  generalize valsB s x = l at *
  have hn : l ≠ [] := fun e => by subst e; simp at h1
  rw [List.getLastD_eq_getLast?, List.getLast?_eq_some_getLast hn, Option.getD_some, List.getLast_eq_getElem]
  have : l.headD 0 = l[0] := by cases l with | nil => exact (hn rfl).elim | cons a l => rfl
  rw [this]
  exact List.pairwise_iff_getElem.1 hp 0 (l.length - 1) (by omega) (by omega) (by omega)
theorem open_small' (s : List Dom) : (openB s s.length).length ≤ s.length := by
  unfold openB; rw [List.length_map]; exact Nat.le_trans (List.length_filter_le _ _) (by simp)

/-- A split: variable, value, whether there is one. -/
def pickB (s : List Dom) (n : Int) : Int × Int × Bool :=
  if openB s s.length = [] then (0, 0, false) else
    let o := openB s s.length
    let x := o.getD (n % o.length).toNat 0
    (x, loB s x + 1 + (n / o.length) % (hiB s x - loB s x), true)
theorem pick_open {s : List Dom} (h : ∀ d ∈ s, DG d) (hn : openB s s.length ≠ []) (n : Int) :
    (n % (openB s s.length).length).toNat < (openB s s.length).length ∧ (openB s s.length).getD (n % (openB s s.length).length).toNat 0 ∈ openB s s.length := by
  have hl : 0 < (openB s s.length).length := List.length_pos_iff.2 hn
  have h0 : 0 ≤ n % ((openB s s.length).length : Int) := Int.emod_nonneg _ (by omega)
  have h1 : n % ((openB s s.length).length : Int) < (openB s s.length).length := Int.emod_lt_of_pos _ (by omega)
  have h2 : (n % ((openB s s.length).length : Int)).toNat < (openB s s.length).length := by omega
  refine ⟨h2, ?_⟩
  rw [List.getD_eq_getElem?_getD, List.getElem?_eq_getElem h2]; exact List.getElem_mem h2
end Go.Abs.G


namespace Go.Abs.G
open Go.Proofs
set_option linter.unusedVariables false
set_option linter.unusedSimpArgs false

theorem tdiv_mod (n by' : Int) (hb : 0 < by') : (n.tmod by' < 0 → n.tdiv by' - 1 = n / by' ∧ n.tmod by' + by' = n % by') ∧ (¬ n.tmod by' < 0 → n.tdiv by' = n / by' ∧ n.tmod by' = n % by') := by
  have e1 := Int.mul_tdiv_add_tmod n by'
  have e2 := Int.mul_ediv_add_emod n by'
  have a1 := Int.emod_nonneg n (show by' ≠ 0 by omega)
  have a2 := Int.emod_lt_of_pos n hb
  have b1 := Int.tmod_lt_of_pos n hb
  have b2 : -by' < n.tmod by' := by
    have := Int.lt_tmod_of_pos n hb; omega
  have key : ∀ q r q' r' : Int, by' * q + r = by' * q' + r' → 0 ≤ r → r < by' → 0 ≤ r' → r' < by' → q = q' ∧ r = r' := by
    intro q r q' r' e c1 c2 c3 c4
    have : by' * (q - q') = r' - r := by rw [Int.mul_sub]; omega
    have hq : q - q' = 0 := by
      by_cases h0 : 0 < q - q'
      · have : by' * 1 ≤ by' * (q - q') := Int.mul_le_mul_of_nonneg_left (by omega) (by omega)
        omega
      · by_cases h1 : q - q' < 0
        · have : by' * (q - q') ≤ by' * (-1) := Int.mul_le_mul_of_nonneg_left (by omega) (by omega)
          omega
        · omega
    rw [hq] at this
    omega
  constructor
  · intro h
    exact key _ _ _ _ (by rw [Int.mul_sub]; omega) (by omega) (by omega) a1 a2
  · intro h
    exact key _ _ _ _ (by omega) (by omega) (by omega) a1 a2
theorem tmod_bound (n by' : Int) (hb : 0 < by') (hs : by' ≤ 4000000000) : -4000000000 < n.tmod by' ∧ n.tmod by' < 4000000000 := by
  have b1 := Int.tmod_lt_of_pos n hb
  have b2 := Int.lt_tmod_of_pos n hb
  omega
theorem tdiv_bound {n by' : Int} (hn : I64 n) (hb : 0 < by') (hs : by' ≤ 4000000000) : -9223372036854775808 ≤ n.tdiv by' ∧ n.tdiv by' ≤ 9223372036854775807 ∧ (n.tmod by' < 0 → -9223372036854775808 ≤ n.tdiv by' - 1) := by
  obtain ⟨h1, h2⟩ := hn
  have e := Int.mul_tdiv_add_tmod n by'
  have b1 := Int.tmod_lt_of_pos n hb
  have b2 := Int.lt_tmod_of_pos n hb
  obtain ⟨q, hq⟩ : ∃ q, q = n.tdiv by' := ⟨_, rfl⟩
  rw [← hq] at e ⊢
  by_cases h : by' = 1
  · subst h
    have : n.tmod 1 = 0 := by rw [Int.tmod_one]
    omega
  · have k1 : ∀ c, c ≤ q → by' * c ≤ by' * q := fun c hc => Int.mul_le_mul_of_nonneg_left hc (by omega)
    have k2 : ∀ c, q ≤ c → by' * q ≤ by' * c := fun c hc => Int.mul_le_mul_of_nonneg_left hc (by omega)
    have p1 : 0 ≤ q → q ≤ 9223372036854775807 := fun h0 => by
      by_cases c : q ≤ 4611686018427387904
      · omega
      · have := Int.mul_le_mul_of_nonneg_right (show 2 ≤ by' by omega) h0; omega
    have p2 : q < 0 → -9223372036854775807 ≤ q := fun h0 => by
      by_cases c : -4611686018427387905 ≤ q
      · omega
      · have := Int.mul_le_mul_of_nonneg_right (show 2 ≤ by' by omega) (show 0 ≤ -q by omega)
        rw [Int.mul_neg, Int.mul_neg] at this
        omega
    by_cases h0 : 0 ≤ q
    · have := p1 h0; exact ⟨by omega, by omega, fun _ => by omega⟩
    · have := p2 (by omega); exact ⟨by omega, by omega, fun _ => by omega⟩

theorem divided_spec (n by' : Int) (hn : I64 n) (hb : 0 < by') (hs : by' ≤ 4000000000) : Pf Try.prog branch_divided.id [V.i n, V.i by'] (.tup [V.i (n / by'), V.i (n % by')]) := by
  refine DC.of branch_divided.ok (by simp) ?_
  unfold branch_divided.ir
  obtain ⟨t1, t2⟩ := tdiv_mod n by' hb
  obtain ⟨q1, q2, q3⟩ := tdiv_bound hn hb hs
  obtain ⟨m1, m2⟩ := tmod_bound n by' hb hs
  have hne : ¬ by' = 0 := by omega
  have w1 : IntKind.i64.wrap (n.tdiv by') = n.tdiv by' := wrap64 (by omega) (by omega)
  have w2 : IntKind.i64.wrap (n.tmod by') = n.tmod by' := wrap64 (by omega) (by omega)
  by_cases h : n.tmod by' < 0
  · obtain ⟨e1, e2⟩ := t1 h
    have w3 : IntKind.i64.wrap (n.tdiv by' - 1) = n.tdiv by' - 1 := wrap64 (q3 h) (by omega)
    have w4 : IntKind.i64.wrap (n.tmod by' + by') = n.tmod by' + by' := wrap64 (by omega) (by omega)
    rw [e1] at w3; rw [e2] at w4
    simp -dsimp [hne, w1, w2, h, w3, w4, e1, e2, branch_divided.rs]
  · obtain ⟨e1, e2⟩ := t2 h
    rw [e1] at w1; rw [e2] at w2 h
    simp -dsimp [hne, w1, w2, h, e1, e2, branch_divided.rs]
theorem ediv_i64 {n by' : Int} (hn : I64 n) (hb : 0 < by') (hs : by' ≤ 4000000000) : I64 (n / by') := by
  obtain ⟨t1, t2⟩ := tdiv_mod n by' hb
  obtain ⟨q1, q2, q3⟩ := tdiv_bound hn hb hs
  by_cases h : n.tmod by' < 0
  · obtain ⟨e1, e2⟩ := t1 h
    have := q3 h
    exact ⟨by omega, by omega⟩
  · obtain ⟨e1, e2⟩ := t2 h
    exact ⟨by omega, by omega⟩
def pickV (p : Int × Int × Bool) : V := .tup [V.i p.1, V.i p.2.1, .bool p.2.2]

theorem pick_spec {s : List Dom} {ms : List (List Dom)} (hs : Two s ms) (n : Int) (hn : I64 n) :
    DC Try.prog branch_Pick.id [.ptr 0 1 0 0, V.i n] [ST s ms] (fun r H => r = pickV (pickB s n) ∧ H = [ST s ms]) := by
  refine DC.of branch_Pick.ok (by simp) ?_
  unfold branch_Pick.ir
  refine vc_cut (At [(0, .ptr 0 1 0 0), (1, V.i n)] [ST s ms]) (by simp -dsimp [At]) ?_
  try clear h
  rintro ⟨sl, hp, bs⟩ ⟨rfl, h⟩
  simp only [sls_cons, sls_one, sls_nil] at h
  refine vc_cut (At [(0, .ptr 0 1 0 0), (1, V.i n), (7, vInts (openB s s.length))] [ST s ms]) ?_ ?_
  · simp -dsimp [h]
    refine gcallm1 (openT hs) 0 (by simp -dsimp [h, addAll]) (by simp -dsimp [h]) (by simp) (by simp) (by simp) (by simp -dsimp [h, idx]) (by simp) ?_
    simp -dsimp [h, At]
  try clear h
  rintro ⟨sl, hp, bs⟩ ⟨rfl, h⟩
  simp only [sls_cons, sls_one, sls_nil] at h
  have hsm := open_small' s
  have h64 := hs.n
  by_cases he : openB s s.length = []
  · simp -dsimp [h, he, vInts, branch_Pick.rs, pickB, pickV]
  · have hl : 0 < (openB s s.length).length := List.length_pos_iff.2 he
    have hl' : ¬ ((openB s s.length).length : Int) = 0 := by omega
    obtain ⟨hlt', hmem⟩ := pick_open hs.d he n
    have he0 : 0 ≤ n % ((openB s s.length).length : Int) := Int.emod_nonneg _ (by omega)
    have hpk : pickB s n = ((openB s s.length).getD (n % (openB s s.length).length).toNat 0, loB s ((openB s s.length).getD (n % (openB s s.length).length).toNat 0) + 1 + (n / (openB s s.length).length) % (hiB s ((openB s s.length).getD (n % (openB s s.length).length).toNat 0) - loB s ((openB s s.length).getD (n % (openB s s.length).length).toNat 0)), true) := by simp [pickB, he]
    have he1 : n % ((openB s s.length).length : Int) < (openB s s.length).length := Int.emod_lt_of_pos _ (by omega)
    obtain ⟨x, hx⟩ : ∃ x, x = (openB s s.length).getD (n % (openB s s.length).length).toNat 0 := ⟨_, rfl⟩
    have hxe : (openB s s.length)[(n % (openB s s.length).length).toNat]? = some x := by rw [hx, List.getD_eq_getElem?_getD, List.getElem?_eq_getElem hlt']; rfl
    rw [← hx] at hpk hmem
    obtain ⟨hxi, hx1⟩ := (open_mem hs.d).1 hmem
    have hlh := lo_lt_hi hx1
    have hsp := vals_span hs.d x
    have r1 := lo_range hs.d x
    have r2 := hi_range hs.d x
    obtain ⟨L, hL⟩ : ∃ L, L = openB s s.length := ⟨_, rfl⟩
    clear hx hlt'
    rw [← hL] at h he hl hl' he0 he1 hpk hxe hsm
    have w1 : IntKind.i64.wrap (hiB s x - loB s x) = hiB s x - loB s x := by rw [wrap64] <;> omega
    have m0 := Int.emod_nonneg (n / (L.length : Int)) (show hiB s x - loB s x ≠ 0 by omega)
    have m1 := Int.emod_lt_of_pos (n / (L.length : Int)) (show 0 < hiB s x - loB s x by omega)
    have w2 : IntKind.i64.wrap (loB s x + 1) = loB s x + 1 := by rw [wrap64] <;> omega
    have w3 : IntKind.i64.wrap (loB s x + 1 + (n / (L.length : Int)) % (hiB s x - loB s x)) = loB s x + 1 + (n / (L.length : Int)) % (hiB s x - loB s x) := by rw [wrap64] <;> omega
    have hlt : (n % (L.length : Int)).toNat < L.length := by omega
    have hxg : ∀ hh, L[(n % (L.length : Int)).toNat]'hh = x := fun hh => by rw [List.getElem?_eq_getElem hh] at hxe; exact Option.some.inj hxe
    simp -dsimp [h, he, hl', vInts]
    refine gcall (divided_spec n L.length hn (by omega) (by omega)) (by simp -dsimp [h, vInts, he0, he1, hlt, hxg]) (by simp -dsimp [h, vInts, he0, he1, hlt, hxg]) ?_
    simp -dsimp [h, vInts, he0, he1, hlt, hxg]
    refine gcallm1 (hiT hs x) 0 (by simp -dsimp [h, addAll]) (by simp -dsimp [h]) (by simp) (by simp) (by simp) (by simp -dsimp [h, idx]) (by simp) ?_
    simp -dsimp [h, vInts, he0, he1, hlt, hxg]
    refine gcallm1 (loT hs x) 0 (by simp -dsimp [h, addAll]) (by simp -dsimp [h]) (by simp) (by simp) (by simp) (by simp -dsimp [h, idx]) (by simp) ?_
    simp -dsimp [h, vInts, he0, he1, hlt, hxg, w1]
    refine gcall (divided_spec (n / (L.length : Int)) (hiB s x - loB s x) (ediv_i64 hn (by omega) (by omega)) (by omega) (by omega)) (by simp -dsimp [h, vInts, he0, he1, hlt, hxg, w1]) (by simp -dsimp [h, vInts, he0, he1, hlt, hxg, w1]) ?_
    simp -dsimp [h, vInts, he0, he1, hlt, hxg, w1]
    refine gcallm1 (loT hs x) 0 (by simp -dsimp [h, addAll]) (by simp -dsimp [h]) (by simp) (by simp) (by simp) (by simp -dsimp [h, idx]) (by simp) ?_
    simp -dsimp [h, branch_Pick.rs, w2, w3, hpk, pickV]
end Go.Abs.G


namespace Go.Abs.G
open Go.Proofs
set_option linter.unusedVariables false
set_option linter.unusedSimpArgs false

def m17 : Model := ⟨[⟨⟨#[120]⟩, 0, 3⟩, ⟨⟨#[121]⟩, 7, 7⟩, ⟨⟨#[122]⟩, 1, 2⟩], [], false, []⟩
theorem m17_ok : okModel m17 := by
  refine ⟨⟨by decide, fun v hv => ?_⟩, ⟨by decide, fun c hc => by cases hc⟩, by decide, fun t ht => by cases ht⟩
  simp only [m17, List.mem_cons, List.not_mem_nil, or_false] at hv
  rcases hv with rfl | rfl | rfl <;> exact ⟨by decide, ⟨by decide, by decide⟩, ⟨by decide, by decide⟩⟩
theorem m17_1 : pickB (domsOf m17) (-2) = (0, 3, true) := by decide +kernel
theorem m17_2 : pickB (domsOf m17) 5 = (2, 2, true) := by decide +kernel

theorem known17_spec : Pf Try.prog hallmarklaw17_known.id [] (.bool true) := by
  refine DC.of hallmarklaw17_known.ok (by simp) ?_
  unfold hallmarklaw17_known.ir
  have hnew := newT m17 m17_ok
  have hT := Two.new m17
  have p1 := pick_spec hT (-2) ⟨by decide, by decide⟩
  have p2 := pick_spec hT 5 ⟨by decide, by decide⟩
  rw [m17_1] at p1
  rw [m17_2] at p2
  generalize domsOf m17 = s at hnew hT p1 p2
  refine vc_cut (At [] []) (by simp -dsimp [At]) ?_
  try clear h
  rintro ⟨sl, hp, bs⟩ ⟨rfl, h⟩
  simp only [sls_cons, sls_one, sls_nil] at h
  refine vc_cut (fun st => ∃ A, At [(1, .ptr 1 1 0 0)] [A, ST s []] st) ?_ ?_
  · simp -dsimp [h]
    refine gcallo (zs := [.agg [vVars m17.vars, nilS, .bool false, nilS]]) (H0 := [ST s []]) (r0 := .ptr 0 1 0 0) (DC.sub (.cons (.agg (.cons (.refl _) (.cons (.nil 10) (.cons (.refl _) (.cons (.nil 2) .nil))))) .nil) hnew) (by simp -dsimp [vVars, m17, Var.cells]) (by simp -dsimp [vVars]) (by simp) ?_
    simp -dsimp [At]
  rintro ⟨sl, hp, bs⟩ ⟨A, rfl, h⟩; simp only [sls_one] at h
  refine vc_cut (fun st => ∃ A, At [(1, .ptr 1 1 0 0), (2, .ptr 3 1 0 0)] [A, ST s [], .res, SC [4, 5]] st) ?_ ?_
  · simp -dsimp [h]
    refine gcallm (new17_spec [4, 5] (by decide)) [] (by simp -dsimp [h, addAll, vInts]) ⟨by simp, by simp, by simp, by simp⟩ (by simp -dsimp [h, vInts]) (by simp [sub]) (by simp) ?_
    simp -dsimp [h, At, merge, place, back]
  rintro ⟨sl, hp, bs⟩ ⟨A, rfl, h⟩; simp only [sls_one, sls_cons] at h
  refine vc_cut (At [(1, .ptr 1 1 0 0)] [A, ST s [], .res, SC []]) ?_ ?_
  · simp -dsimp [h]
    refine gcallm1 (next17_spec [4, 5]) 3 (by simp -dsimp [h, addAll]) (by simp -dsimp [h]) (by simp) (by simp) (by simp) (by simp -dsimp [h, idx]) (by simp) ?_
    simp -dsimp [h]
    refine gcallm1 (next17_spec [5]) 3 (by simp -dsimp [h, addAll]) (by simp -dsimp [h]) (by simp) (by simp) (by simp) (by simp -dsimp [h, idx]) (by simp) ?_
    simp -dsimp [h]
    refine gcallm1 (next17_spec []) 3 (by simp -dsimp [h, addAll]) (by simp -dsimp [h]) (by simp) (by simp) (by simp) (by simp -dsimp [h, idx]) (by simp) ?_
    simp -dsimp [h, At]
  try clear h
  rintro ⟨sl, hp, bs⟩ ⟨rfl, h⟩
  simp only [sls_cons, sls_one, sls_nil] at h
  refine vc_cut (At [(1, .ptr 1 1 0 0), (3, V.i 0), (4, V.i 3), (5, .bool true)] [A, ST s [], .res, SC []]) ?_ ?_
  · simp -dsimp [h]
    refine gcallm1 (p1) 1 (by simp -dsimp [h, addAll]) (by simp -dsimp [h]) (by simp) (by simp) (by simp) (by simp -dsimp [h, idx]) (by simp) ?_
    simp -dsimp [h, pickV, At]
  try clear h
  rintro ⟨sl, hp, bs⟩ ⟨rfl, h⟩
  simp only [sls_cons, sls_one, sls_nil] at h
  refine vc_cut (At [(3, V.i 0), (4, V.i 3), (5, .bool true), (6, V.i 2), (7, V.i 2), (8, .bool true)] [A, ST s [], .res, SC []]) ?_ ?_
  · simp -dsimp [h]
    refine gcallm1 (p2) 1 (by simp -dsimp [h, addAll]) (by simp -dsimp [h]) (by simp) (by simp) (by simp) (by simp -dsimp [h, idx]) (by simp) ?_
    simp -dsimp [h, pickV, At]
  try clear h
  rintro ⟨sl, hp, bs⟩ ⟨rfl, h⟩
  simp only [sls_cons, sls_one, sls_nil] at h
  simp -dsimp [h, hallmarklaw17_known.rs]
end Go.Abs.G

namespace Go.Abs.G
open Go.Proofs
set_option linter.unusedVariables false
set_option linter.unusedSimpArgs false

/-- Where both scripts stand. -/
theorem drop_tail (l : List Int) (k : Nat) : (l.drop k).tail = l.drop (min (k + 1) l.length) := by
  by_cases h : k < l.length
  · rw [show min (k + 1) l.length = k + 1 by omega, List.tail_drop]
  · rw [List.drop_eq_nil_of_le (by omega), show min (k + 1) l.length = l.length by omega, List.drop_length]; rfl

theorem scripts_law (h0 g0 : List Int) (asks : Int) (hh : zInts h0) (hg : zInts g0) (ha : I64 asks) : Pf Try.prog hallmarklaw17_BranchScripts.id [vInts h0, vInts g0, V.i asks] (.bool true) := by
  have hM : (maxLen : Int) ≤ 9223372036854775807 := by decide
  refine DC.of hallmarklaw17_BranchScripts.ok (by simp) ?_
  unfold hallmarklaw17_BranchScripts.ir
  refine vc_cut (At [(0, vInts h0), (1, vInts g0), (2, V.i asks)] []) (by simp -dsimp [At]) ?_
  try clear h
  rintro ⟨sl, hp, bs⟩ ⟨rfl, h⟩
  simp only [sls_cons, sls_one, sls_nil] at h
  refine vc_cut (At [(0, vInts h0), (1, vInts g0), (2, V.i asks)] []) ?_ ?_
  · simp -dsimp [h]
    refine gcall (known17_spec) (by simp -dsimp [h, At]) (by simp -dsimp [h, At]) ?_
    simp -dsimp [h, At]
  try clear h
  rintro ⟨sl, hp, bs⟩ ⟨rfl, h⟩
  simp only [sls_cons, sls_one, sls_nil] at h
  refine vc_cut (fun st => h0.length ≤ 65536 ∧ g0.length ≤ 65536 ∧ 0 ≤ asks ∧ asks ≤ 300 ∧ At [(0, vInts h0), (1, vInts g0), (2, V.i asks)] [] st) ?_ ?_
  · by_cases h1 : h0.length ≤ 65536
    · have h1' : ¬ (65536 : Int) < h0.length := by omega
      by_cases h2 : g0.length ≤ 65536
      · have h2' : ¬ (65536 : Int) < g0.length := by omega
        by_cases h3 : asks < 0
        · simp -dsimp [h, hallmarklaw17_BranchScripts.rs, vInts, h1', h2', h3]
        · by_cases h4 : 300 < asks
          · simp -dsimp [h, hallmarklaw17_BranchScripts.rs, vInts, h1', h2', h3, h4]
          · simp -dsimp [h, At, vInts, h1', h2', h3, h4, h1, h2]
            omega
      · have h2' : (65536 : Int) < g0.length := by omega
        simp -dsimp [h, hallmarklaw17_BranchScripts.rs, vInts, h1', h2']
    · have h1' : (65536 : Int) < h0.length := by omega
      simp -dsimp [h, hallmarklaw17_BranchScripts.rs, vInts, h1']
  rintro ⟨sl, hp, bs⟩ ⟨hl1, hl2, ha0, ha1, rfl, h⟩; simp only [sls_cons, sls_one] at h
  obtain ⟨n, rfl⟩ : ∃ n : Nat, asks = n := ⟨asks.toNat, by omega⟩
  obtain ⟨w, hw⟩ : ∃ w : List Int, w = h0 ++ [9, 9] := ⟨_, rfl⟩
  have hwl : w.length = h0.length + 2 := by rw [hw]; simp
  have hwt : w.take h0.length = h0 := by rw [hw]; simp
  have t1 : List.take h0.length (h0.map fun n => [V.i n]) = h0.map fun n => [V.i n] := List.take_of_length_le (by simp)
  have t2 : List.take g0.length (g0.map fun n => [V.i n]) = g0.map fun n => [V.i n] := List.take_of_length_le (by simp)
  refine vc_cut (fun st => gt st.sl 0 = vInts h0 ∧ gt st.sl 1 = vInts g0 ∧ gt st.sl 2 = V.i n ∧ gt st.sl 7 = .own 0 1 0 w.length w.length ∧ st.hp = [.mem false [] (ri w), .res, .res]) ?_ ?_
  · have e1 : (h0.length : Int) * 8 ≤ 140737488355328 := by omega
    have e2 : ((h0.length : Int) + 2) * 8 ≤ 140737488355328 := by omega
    simp -dsimp [h, vInts, hw, ri, t1, e1, e2]
  clear h
  rintro ⟨sl, hp, bs⟩ ⟨a1, a2, a3, a4, rfl⟩
  have h := And.intro a1 (And.intro a2 (And.intro a3 a4))
  clear a1 a2 a3 a4
  have e1 : (g0.length : Int) * 8 ≤ 140737488355328 := by omega
  have c1 := new17_own w h0.length (by omega) (by omega)
  rw [hwl, hwt] at c1
  have c2 := new17_own g0 g0.length (Nat.le_refl _) e1
  rw [List.take_length] at c2
  obtain ⟨X0, hX0⟩ : ∃ X, X = O.mem false [] (ri w) := ⟨_, rfl⟩
  obtain ⟨Y, hY⟩ : ∃ Y, Y = O.mem false [] (ri g0) := ⟨_, rfl⟩
  have hYr : Y.refs = [] := by rw [hY]; rfl
  have hYc : Y.clo := by rw [hY]; exact ⟨rfl, fun f => by simp [ri], fun e => by cases e⟩
  have hXc : X0.clo := by rw [hX0]; exact ⟨rfl, fun f => by simp [ri], fun e => by cases e⟩
  refine vc_cut (At [(0, vInts h0), (1, vInts g0), (2, V.i n), (7, .own 0 1 0 w.length w.length), (8, .ptr 4 1 0 0), (9, .ptr 5 1 0 0)] [X0, .res, .res, Y, SC h0, SC g0]) ?_ ?_
  · simp -dsimp [h, vInts, t2, hwl]
    refine ⟨⟨by rw [ri_len, hwl], by omega⟩, ?_⟩
    refine gcallm c1 [0] (by simp -dsimp [h, addAll]) ⟨by simp, by simp, by simp, by simp⟩ (by simp -dsimp [h, idx, List.idxOf_cons]) (by simp [sub, ri_ren]) (by simp) ?_
    simp -dsimp [h, merge, place, back, ri_ren, vInts, t2, e1]
    refine gcallm c2 [3] (by simp -dsimp [h, addAll]) ⟨by simp, by simp, by simp, by simp⟩ (by simp -dsimp [h, idx, List.idxOf_cons]) (by simp [sub, ri]) (by simp) ?_
    simp -dsimp [h, At, merge, place, back, ri_ren, hX0, hY, hwl, vInts]
  try clear h
  rintro ⟨sl, hp, bs⟩ ⟨rfl, h⟩
  simp only [sls_cons, sls_one, sls_nil] at h
  have hw9 : (ri w)[h0.length]? = some [V.i 9] := by simp [ri, hw]
  have hw9g : ∀ hh, (ri w)[h0.length]'hh = [V.i 9] := fun hh => by rw [List.getElem?_eq_getElem hh] at hw9; exact Option.some.inj hw9
  have hwr : (ri w).length = w.length := ri_len w
  have hlt : h0.length < (ri w).length := by omega
  refine vc_cut (At [(0, vInts h0), (1, vInts g0), (2, V.i n), (7, .own 0 1 0 w.length w.length), (8, .ptr 4 1 0 0), (9, .ptr 5 1 0 0)] [X0, .res, .res, Y, SC h0, SC g0]) (by simp -dsimp [h, At, hX0, vInts, hwl, hw9, hw9g, hwr, hlt, (show (h0.length : Int) < h0.length + 2 by omega)]) ?_
  try clear h
  rintro ⟨sl, hp, bs⟩ ⟨rfl, h⟩
  simp only [sls_cons, sls_one, sls_nil] at h
  refine vc_cut (fun st => ∃ X : O, X.clo ∧ At [(0, vInts h0), (1, vInts g0), (2, V.i n), (8, .ptr 4 1 0 0), (9, .ptr 5 1 0 0)] [X, .res, .res, Y, SC h0, SC g0] st) ?_ ?_
  · refine vc_cut (At [(0, vInts h0), (1, vInts g0), (2, V.i n), (7, .own 0 1 0 w.length w.length), (8, .ptr 4 1 0 0), (9, .ptr 5 1 0 0), (10, V.i 0)] [X0, .res, .res, Y, SC h0, SC g0]) (by simp -dsimp [h, At]) ?_
    try clear h
    rintro ⟨sl, hp, bs⟩ ⟨rfl, h⟩
    simp only [sls_cons, sls_one, sls_nil] at h
    refine vc_block_of (vc_upto 6 (by simp) w.length (fun i st => ∃ u : List Int, u.length = w.length ∧ At [(0, vInts h0), (1, vInts g0), (2, V.i n), (7, .own 0 1 0 w.length w.length), (8, .ptr 4 1 0 0), (9, .ptr 5 1 0 0), (10, V.i i)] [.mem false [] (ri u), .res, .res, Y, SC h0, SC g0] st) ⟨w, rfl, by rw [hX0], by simpa using h⟩ ?_)
    clear h
    rintro i ⟨sl, hp, bs⟩ hi ⟨u, hu, rfl, h⟩
    simp only [sls_cons, sls_one] at h
    unfold hallmarklaw17_BranchScripts.b0
    by_cases hil : i < w.length
    · have hwp : IntKind.i64.wrap ((i : Int) + 1) = ((i + 1 : Nat) : Int) := by rw [wrap64] <;> omega
      have hilr : i < (ri u).length := by rw [ri_len]; omega
      have hul : (ri u).length = w.length := by rw [ri_len]; exact hu
      have hset : (ri u).set i [V.i 77] = ri (u.set i 77) := by simp [ri, List.map_set]
      have hg1 : ∀ hh, (ri u)[i]'hh = [V.i (u[i]'(by omega))] := fun hh => by simp [ri]
      simp -dsimp [h, hil, At, hul, hilr, hwp, hg1, hset, hYr, vInts]
      exact ⟨u.set i 77, by simpa using hu, rfl⟩
    · simp -dsimp [h, hil, At]
      exact ⟨by rw [ri_len]; exact hu, rfl, fun f => by simp [ri], fun e => by cases e⟩
  clear h
  rintro ⟨sl, hp, bs⟩ ⟨X, hX, rfl, h⟩; simp only [sls_cons, sls_one] at h
  refine vc_cut (fun st => ∃ X Y : O, X.refs = [] ∧ Y.refs = [] ∧ At [(2, V.i n), (8, .ptr 4 1 0 0), (9, .ptr 5 1 0 0), (11, .ptr 6 1 0 0), (12, .ptr 7 1 0 0)] [X, .res, .res, Y, SC h0, SC g0, SR h0 0, SR g0 0] st) ?_ ?_
  · simp -dsimp [h]
    refine gcallo (newS_spec h0 (by omega)) (by simp -dsimp [h]) (by simp [vInts]) (by simp) ?_
    simp -dsimp [h]
    refine gcallo (newS_spec g0 (by omega)) (by simp -dsimp [h]) (by simp [vInts]) (by simp) ?_
    simp -dsimp [h, At]
    exact ⟨hX.refs, hYr⟩
  clear h hX hYr hYc hY hXc
  rintro ⟨sl, hp, bs⟩ ⟨X, Y, hX, hY, rfl, h⟩; simp only [sls_cons, sls_one] at h
  refine vc_cut (fun st => True) ?_ ?_
  · refine vc_cut (At [(2, V.i n), (8, .ptr 4 1 0 0), (9, .ptr 5 1 0 0), (11, .ptr 6 1 0 0), (12, .ptr 7 1 0 0), (13, V.i 0)] [X, .res, .res, Y, SC h0, SC g0, SR h0 0, SR g0 0]) (by simp -dsimp [h, At]) ?_
    try clear h
    rintro ⟨sl, hp, bs⟩ ⟨rfl, h⟩
    simp only [sls_cons, sls_one, sls_nil] at h
    refine vc_block_of (vc_upto 8 (by simp) n (fun i st => ∃ k j : Nat, k ≤ h0.length ∧ j ≤ g0.length ∧ At [(2, V.i n), (8, .ptr 4 1 0 0), (9, .ptr 5 1 0 0), (11, .ptr 6 1 0 0), (12, .ptr 7 1 0 0), (13, V.i i)] [X, .res, .res, Y, SC (h0.drop k), SC (g0.drop j), SR h0 k, SR g0 j] st) ⟨0, 0, Nat.zero_le _, Nat.zero_le _, rfl, by simpa using h⟩ ?_)
    clear h
    rintro i ⟨sl, hp, bs⟩ hi ⟨k, j, hk, hj, rfl, h⟩
    simp only [sls_cons, sls_one] at h
    unfold hallmarklaw17_BranchScripts.b1
    by_cases hil : i < n
    · have hwp : IntKind.i64.wrap ((i : Int) + 1) = ((i + 1 : Nat) : Int) := by rw [wrap64] <;> omega
      have a1 := next17_spec (h0.drop k)
      have a2 := nextS_spec h0 k hk (by omega)
      have b1 := next17_spec (g0.drop j)
      have b2 := nextS_spec g0 j hj (by omega)
      rw [drop_tail] at a1 b1
      obtain ⟨k', hk'⟩ : ∃ k', k' = min (k + 1) h0.length := ⟨_, rfl⟩
      obtain ⟨j', hj'⟩ : ∃ j', j' = min (j + 1) g0.length := ⟨_, rfl⟩
      have hkk : k' ≤ h0.length := by omega
      have hjj : j' ≤ g0.length := by omega
      rw [← hk'] at a1 a2
      rw [← hj'] at b1 b2
      refine vc_cut (At [(2, V.i n), (8, .ptr 4 1 0 0), (9, .ptr 5 1 0 0), (11, .ptr 6 1 0 0), (12, .ptr 7 1 0 0), (13, V.i i)] [X, .res, .res, Y, SC (h0.drop k), SC (g0.drop j), SR h0 k, SR g0 j]) (by simp -dsimp [h, At, hil]) ?_
      try clear h
      rintro ⟨sl, hp, bs⟩ ⟨rfl, h⟩
      simp only [sls_cons, sls_one, sls_nil] at h
      refine vc_cut (fun st => ∃ (k j : Nat) (E : Heap), k ≤ h0.length ∧ j ≤ g0.length ∧ At [(2, V.i n), (8, .ptr 4 1 0 0), (9, .ptr 5 1 0 0), (11, .ptr 6 1 0 0), (12, .ptr 7 1 0 0), (13, V.i i)] ([X, .res, .res, Y, SC (h0.drop k), SC (g0.drop j), SR h0 k, SR g0 j] ++ E) st) ?_ ?_
      · refine vc_block_of ?_
        refine vc_cut (fun st => ∃ (k j : Nat), k ≤ h0.length ∧ j ≤ g0.length ∧ At [(2, V.i n), (8, .ptr 4 1 0 0), (9, .ptr 5 1 0 0), (11, .ptr 6 1 0 0), (12, .ptr 7 1 0 0), (13, V.i i)] ([X, .res, .res, Y, SC (h0.drop k), SC (g0.drop j), SR h0 k, SR g0 j]) st) ?_ ?_
        · by_cases hp2 : (i : Int).tmod 2 = 0
          · simp -dsimp [h]
            refine gcallm1 (a1) 4 (by simp -dsimp [h, addAll]) (by simp -dsimp [h]) (by simp) (by simp) (by simp) (by simp -dsimp [h, idx]) (by simp) ?_
            simp -dsimp [h]
            refine gcallm1 (a2) 6 (by simp -dsimp [h, addAll]) (by simp -dsimp [h]) (by simp) (by simp) (by simp) (by simp -dsimp [h, idx]) (by simp) ?_
            simp -dsimp [h, hp2]
            refine gcallm1 (b1) 5 (by simp -dsimp [h, addAll]) (by simp -dsimp [h]) (by simp) (by simp) (by simp) (by simp -dsimp [h, idx]) (by simp) ?_
            simp -dsimp [h]
            refine gcallm1 (b2) 7 (by simp -dsimp [h, addAll]) (by simp -dsimp [h]) (by simp) (by simp) (by simp) (by simp -dsimp [h, idx]) (by simp) ?_
            simp -dsimp [h, At]
            exact ⟨k', hkk, j', hjj, rfl, rfl, rfl, rfl⟩
          · simp -dsimp [h]
            refine gcallm1 (a1) 4 (by simp -dsimp [h, addAll]) (by simp -dsimp [h]) (by simp) (by simp) (by simp) (by simp -dsimp [h, idx]) (by simp) ?_
            simp -dsimp [h]
            refine gcallm1 (a2) 6 (by simp -dsimp [h, addAll]) (by simp -dsimp [h]) (by simp) (by simp) (by simp) (by simp -dsimp [h, idx]) (by simp) ?_
            simp -dsimp [h, hp2, At]
            exact ⟨k', hkk, j, hj, rfl, rfl, rfl, rfl⟩
        clear h a1 a2 b1 b2 hk' hj' hkk hjj k' j' hk hj k j
        rintro ⟨sl, hp, bs⟩ ⟨k, j, hk, hj, rfl, h⟩; simp only [sls_cons, sls_one] at h
        by_cases hp5 : (i : Int).tmod 5 = 3
        · have a0 := copy17_spec (h0.drop k) (by rw [List.length_drop]; omega)
          have a1 := next17_spec (h0.drop k)
          have a2 := nextS_spec h0 k hk (by omega)
          rw [drop_tail] at a1
          obtain ⟨k', hk'⟩ : ∃ k', k' = min (k + 1) h0.length := ⟨_, rfl⟩
          have hkk : k' ≤ h0.length := by omega
          rw [← hk'] at a1 a2
          have b1 := next17_spec (h0.drop k')
          have b2 := nextS_spec h0 k' hkk (by omega)
          simp -dsimp [h, hp5]
          refine gcallm1 (a0) 4 (by simp -dsimp [h, addAll]) (by simp -dsimp [h]) (by simp) (by simp) (by simp) (by simp -dsimp [h, idx]) (by simp) ?_
          simp -dsimp [h]
          refine gcallm1 (copyS_spec h0 k) 6 (by simp -dsimp [h, addAll]) (by simp -dsimp [h]) (by simp) (by simp) (by simp) (by simp -dsimp [h, idx]) (by simp) ?_
          simp -dsimp [h]
          refine gcallm1 (a1) 8 (by simp -dsimp [h, addAll]) (by simp -dsimp [h]) (by simp) (by simp) (by simp) (by simp -dsimp [h, idx]) (by simp) ?_
          simp -dsimp [h]
          refine gcallm1 (a2) 9 (by simp -dsimp [h, addAll]) (by simp -dsimp [h]) (by simp) (by simp) (by simp) (by simp -dsimp [h, idx]) (by simp) ?_
          simp -dsimp [h]
          refine gcallm1 (b1) 8 (by simp -dsimp [h, addAll]) (by simp -dsimp [h]) (by simp) (by simp) (by simp) (by simp -dsimp [h, idx]) (by simp) ?_
          simp -dsimp [h]
          refine gcallm1 (b2) 9 (by simp -dsimp [h, addAll]) (by simp -dsimp [h]) (by simp) (by simp) (by simp) (by simp -dsimp [h, idx]) (by simp) ?_
          simp -dsimp [h, At]
          exact ⟨k, hk, j, hj, rfl, rfl, rfl, rfl⟩
        · simp -dsimp [h, hp5, At]
          exact ⟨k, hk, j, hj, rfl, rfl, rfl, rfl⟩
      clear h a1 a2 b1 b2 hk' hj' hkk hjj k' j' hk hj k j
      rintro ⟨sl, hp, bs⟩ ⟨k, j, E, hk, hj, rfl, h⟩; simp only [sls_cons, sls_one] at h
      simp -dsimp [h, At, hwp, hil, hX, hY, vInts]
      exact ⟨k, hk, j, hj, rfl, rfl, rfl, rfl⟩
    · simp -dsimp [h, hil, At]
  · rintro ⟨sl, hp, bs⟩ _
    simp -dsimp [hallmarklaw17_BranchScripts.rs]
end Go.Abs.G
