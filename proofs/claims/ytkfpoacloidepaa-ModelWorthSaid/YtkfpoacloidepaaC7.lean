import Derived.Test.YtkfpoacloidepaaC6
set_option linter.all false
namespace Go.Abs.G
open Go.Proofs
set_option linter.unusedVariables false

theorem width_pos (s : ByteArray) (pos : Nat) : 1 ≤ (Utf8.decode s pos).2 := by
  unfold Utf8.decode
  simp only
  repeat' split
  all_goals simp

theorem nameFrom_step (s : ByteArray) (f pos : Nat) (h : pos < s.size) : nameFrom s (f + 1) pos = if !letterB (Utf8.decode s pos).1 && (decide (pos = 0) || decide ((Utf8.decode s pos).1 < 48) || decide (57 < (Utf8.decode s pos).1)) then false else nameFrom s f (pos + (Utf8.decode s pos).2) := by
  rw [nameFrom, if_pos h]

theorem nameFrom_end (s : ByteArray) (f pos : Nat) (h : ¬ pos < s.size) : nameFrom s f pos = true := by
  cases f with
  | zero => rfl
  | succ f => rw [nameFrom, if_neg h]

def sitLeft : Heap → Nat
  | [.sit s pos] => s.size - pos
  | _ => 0
attribute [simp] sitLeft

theorem name_spec (s : ByteArray) (hs : s.size ≤ maxLen) : Pf Try.prog model_isName.id [.str s] (.bool (nameB s)) := by
  have hm : (maxLen : Int) ≤ 9223372036854775807 := by decide
  refine DC.of model_isName.ok (by simp) ?_
  simp [model_isName.ir, model_isName.rs]
  refine WI.mono (Q := fun e st => (e = .exit 0 ∧ gt st.sl 0 = .str s ∧ nameFrom s (s.size + 1) 0 = true) ∨ (e = .ret ∧ gt st.sl 2 = .bool false ∧ nameFrom s (s.size + 1) 0 = false)) (WI.loop 1 (by simp) (fun st => ∃ pos f, gt st.sl 0 = .str s ∧ gt st.sl 7 = .ptr 0 0 0 0 ∧ st.hp = [.sit s pos] ∧ s.size < f + pos ∧ nameFrom s (s.size + 1) 0 = nameFrom s f pos) (fun st => sitLeft st.hp) ?_ ?_) ?_
  · exact ⟨0, s.size + 1, by simp⟩
  · rintro ⟨sl, hp, bs⟩ ⟨pos, f, h0, h7, rfl, hf, he⟩
    by_cases hp : pos < s.size
    · obtain ⟨f, rfl⟩ : ∃ g, f = g + 1 := ⟨f - 1, by omega⟩
      have hw := width_pos s pos
      rw [nameFrom_step s f pos hp] at he
      have hnm : pos = 0 ∨ 0 < pos := by omega
      generalize hd : Utf8.decode s pos = d at he hw
      obtain ⟨r, wd⟩ := d
      simp only at he hw
      unfold model_isName.b0
      refine vc_cut (fun st => gt st.sl 0 = .str s ∧ gt st.sl 7 = .ptr 0 0 0 0 ∧ gt st.sl 8 = .tup [.bool true, V.i pos, .int .i32 r] ∧ gt st.sl 9 = .bool true ∧ st.hp = [.sit s (pos + wd)]) (by simp [h0, h7, hp, hd]) ?_
      rintro ⟨sl, _, bs⟩ ⟨h0, h7, h8, h9, rfl⟩
      refine vc_cut (fun st => gt st.sl 0 = .str s ∧ gt st.sl 7 = .ptr 0 0 0 0 ∧ gt st.sl 8 = .tup [.bool true, V.i pos, .int .i32 r] ∧ st.hp = [.sit s (pos + wd)]) (by simp [h0, h7, h8, h9]) ?_
      rintro ⟨sl, _, bs⟩ ⟨h0, h7, h8, rfl⟩
      refine vc_block_of (vc_cut (fun st => gt st.sl 0 = .str s ∧ gt st.sl 7 = .ptr 0 0 0 0 ∧ gt st.sl 3 = V.i pos ∧ gt st.sl 4 = .int .i32 r ∧ st.hp = [.sit s (pos + wd)]) (by simp [h0, h7, h8]) ?_)
      rintro ⟨sl, _, bs⟩ ⟨h0, h7, h3, h4, rfl⟩
      refine vc_cut (fun st => gt st.sl 0 = .str s ∧ gt st.sl 7 = .ptr 0 0 0 0 ∧ gt st.sl 3 = V.i pos ∧ gt st.sl 4 = .int .i32 r ∧ gt st.sl 5 = .bool (letterB r) ∧ st.hp = [.sit s (pos + wd)]) ?_ ?_
      · unfold letterB
        have i1 : ((97 : Int) ≤ (r : Int)) = (97 ≤ r) := by apply propext; omega
        have i2 : ((r : Int) ≤ 122) = (r ≤ 122) := by apply propext; omega
        have i3 : ((65 : Int) ≤ (r : Int)) = (65 ≤ r) := by apply propext; omega
        have i4 : ((r : Int) ≤ 90) = (r ≤ 90) := by apply propext; omega
        have i5 : ((r : Int) == 95) = decide (r = 95) := by rw [Bool.eq_iff_iff]; simp; omega
        by_cases a1 : 97 ≤ r <;> by_cases a2 : r ≤ 122 <;> by_cases a3 : 65 ≤ r <;> by_cases a4 : r ≤ 90 <;> first | (exfalso; omega) | simp [h0, h7, h3, h4, i1, i2, i3, i4, i5, a1, a2, a3, a4]
      rintro ⟨sl, _, bs⟩ ⟨h0, h7, h3, h4, h5, rfl⟩
      refine vc_cut (fun st => gt st.sl 0 = .str s ∧ gt st.sl 7 = .ptr 0 0 0 0 ∧ gt st.sl 43 = .bool (!letterB r && (decide (pos = 0) || decide (r < 48) || decide (57 < r))) ∧ st.hp = [.sit s (pos + wd)]) ?_ ?_
      · have i1 : ((r : Int) < 48) = (r < 48) := by apply propext; omega
        have i2 : ((57 : Int) < (r : Int)) = (57 < r) := by apply propext; omega
        have i3 : ((pos : Int) = 0) = (pos = 0) := by apply propext; omega
        cases hl : letterB r <;> rw [hl] at h5 <;> by_cases a1 : pos = 0 <;> by_cases a2 : r < 48 <;> simp [h0, h7, h3, h4, h5, i1, i2, i3, a1, a2]
      rintro ⟨sl, _, bs⟩ ⟨h0, h7, h43, rfl⟩
      cases hb : (!letterB r && (decide (pos = 0) || decide (r < 48) || decide (57 < r)))
      · rw [hb] at h43 he
        simp [h0, h7, h43]
        exact ⟨⟨f, by omega, by simpa using he⟩, by omega⟩
      · rw [hb] at h43 he
        simp [h0, h7, h43]
        simpa using he
    · rw [nameFrom_end s f pos hp] at he
      simp [model_isName.b0, h0, h7, hp, he]
  · rintro e ⟨sl, hp, bs⟩ (⟨rfl, h0, he⟩ | ⟨rfl, h2, he⟩)
    · by_cases h1 : 1 ≤ s.size
      · have h1' : (1 : Int) ≤ s.size := by omega
        simp [h0, nameB, he, h1, h1']
        omega
      · have h1' : ¬ (1 : Int) ≤ s.size := by omega
        simp [h0, nameB, he, h1, h1']
    · simp [h2, nameB, he]

theorem goal_spec (m : Model) (hl : m.goal.length ≤ maxLen) : Pf Try.prog model_goal.id [.agg m.cells] (V.i (goalB m)) := by
  refine DC.of model_goal.ok (by simp) ?_
  simp [model_goal.ir, model_goal.rs, Model.cells, vVars, vCons, vTerms]
  refine (terms_spec m.goal m.vars.length hl).use ?_
  simp
  by_cases h0 : m.goal = []
  · cases hg : m.hasGoal
    · simp [h0, goalB, hg]
      refine (counts_spec false 0).use ?_
      cases countsB false 0 <;> simp
      simp [badVarB, badCoefB]
    · simp [h0, goalB, hg]
      refine (counts_spec true 0).use ?_
      cases hc : countsB true 0 <;> simp
      all_goals (simp [countsB] at hc)
  · have h1 : 0 < m.goal.length := List.length_pos_iff.2 h0
    have h0' : (0 : Int) < m.goal.length := by omega
    cases hg : m.hasGoal
    · simp [h0, goalB, hg]
    · simp [h0, goalB, hg]
      refine (counts_spec true m.goal.length).use ?_
      cases countsB true m.goal.length <;> simp
      cases badVarB m.vars.length m.goal <;> simp

theorem variable_spec (l : List Var) (i : Nat) (h : i < l.length) (hl : l.length ≤ maxLen) (hv : okVar l[i]) : Pf Try.prog model_variable.id [vVars l, V.i i] (V.i (varB l i l[i])) := by
  have hm : (maxLen : Int) ≤ 9223372036854775807 := by decide
  refine DC.of model_variable.ok (by simp) ?_
  unfold model_variable.ir
  refine vc_cut (fun s => gt s.sl 0 = vVars l ∧ gt s.sl 1 = V.i i ∧ s.hp = []) (by simp) ?_
  rintro ⟨sl, hp, bs⟩ ⟨h0, h1, rfl⟩
  refine vc_cut (fun s => gt s.sl 0 = vVars l ∧ gt s.sl 1 = V.i i ∧ gt s.sl 5 = .ptr 0 1 0 0 ∧ s.hp = [.mem false [] [l[i].cells]]) (by simp [h0, h1, vVars, h, Var.cells]) ?_
  rintro ⟨sl, hp, bs⟩ ⟨h0, h1, h5, rfl⟩
  generalize hv' : l[i] = v at *
  obtain ⟨hv1, _, _⟩ := hv
  have hi : (i : Int) ≤ l.length := by omega
  have htk : List.take i (List.map Var.cells l) = List.map Var.cells (l.take i) := List.map_take.symm
  refine vc_cut (fun s => gt s.sl 5 = .ptr 0 1 0 0 ∧ s.hp = [.mem false [] [v.cells]] ∧ nameB v.name = true ∧ ((l.take i).any fun w => decide (w.name = v.name)) = false) ?_ ?_
  · simp [h0, h1, h5, Var.cells]
    refine (name_spec v.name hv1).use ?_
    cases hn : nameB v.name
    · simp [varB, hn, model_variable.rs]
    simp [h0, h1, h5, Var.cells, vVars, hi]
    rw [htk]
    refine DP.mono (contains_var_spec (p := fun w => decide (w.name = v.name)) (cap := [.ref v.cells 0]) (l := l.take i) (by simp) (by simp) (fun t _ => variable1_spec t v) (by simp; omega)) fun r hr => ?_
    subst hr
    cases ha : ((l.take i).any fun w => decide (w.name = v.name))
    · simp [ha, Var.cells]
      simpa using ha
    · simp [varB, hn, ha, model_variable.rs]
  rintro ⟨sl, hp, bs⟩ ⟨h5, rfl, b1, b2⟩
  have hb : varB l i v = if !withinB v.lo 1000000000 || !withinB v.hi 1000000000 || decide (v.hi < v.lo) || decide (64 ≤ v.hi - v.lo) then 42 else 0 := by
    unfold varB; rw [b1, b2]; rfl
  rw [hb]
  refine vc_cut (fun s => (!withinB v.lo 1000000000 || !withinB v.hi 1000000000 || decide (v.hi < v.lo) || decide (64 ≤ v.hi - v.lo)) = false) ?_ ?_
  · simp [h5, Var.cells]
    refine (within_spec v.lo 1000000000 (by decide) (by decide)).use ?_
    cases w1 : withinB v.lo 1000000000
    · simp [model_variable.rs]
    simp [h5, Var.cells]
    refine (within_spec v.hi 1000000000 (by decide) (by decide)).use ?_
    cases w2 : withinB v.hi 1000000000
    · simp [model_variable.rs]
    unfold withinB at w1 w2
    simp at w1 w2
    have hw : IntKind.i64.wrap (v.hi - v.lo) = v.hi - v.lo := by rw [wrap64] <;> omega
    by_cases hlt : v.hi < v.lo
    · simp [hlt, Int.not_le.2 hlt, model_variable.rs, Var.cells]
    · by_cases hge : 64 ≤ v.hi - v.lo <;> simp [hlt, hw, hge, model_variable.rs, Var.cells] <;> omega
  · rintro ⟨sl, hp, bs⟩ hb
    rw [hb]
    simp [model_variable.rs]
end Go.Abs.G
