import Derived.Test.YtbmfhpbkfigpjaaGreatB5
set_option linter.all false
namespace Go.Abs.G
open Go.Proofs
set_option linter.unusedVariables false
set_option linter.unusedSimpArgs false

theorem take_vars (m : Model) : List.take m.vars.length (m.vars.map Var.cells) = m.vars.map Var.cells := List.take_of_length_le (by simp)
theorem take_goal (m : Model) : List.take m.goal.length (m.goal.map Term.cells) = m.goal.map Term.cells := List.take_of_length_le (by simp)

theorem copied_spec (m : Model) (hm : Small m) : Pf Tryz.prog hallmarklaw11_copied.id [.agg m.cells] (.agg m.cells) := by
  have hv := hm.v
  have hc := hm.c
  have hg := hm.g
  have tv := take_vars m
  have tg := take_goal m
  refine DP.weak (Q := fun r => r = .agg m.cells ∨ m.cons = [] ∧ r = .agg [vVars m.vars, nilS, .bool m.hasGoal, vTerms m.goal]) ?_ ?_
  rotate_left
  · rintro r (rfl | ⟨he, rfl⟩)
    · exact ⟨_, .refl _, fun H => by simp [Model.cells, vVars, vCons, vTerms], rfl⟩
    · refine ⟨.agg m.cells, ?_, fun H => by simp [Model.cells, vVars, vCons, vTerms], rfl⟩
      have : m.cells = [vVars m.vars, .view 10 [], .bool m.hasGoal, vTerms m.goal] := by simp [Model.cells, vCons, he]
      rw [this]
      exact .agg (.cons (.refl _) (.cons (.nil 10) (.cons (.refl _) (.cons (.refl _) .nil))))
  refine DC.of hallmarklaw11_copied.ok (by simp) ?_
  unfold hallmarklaw11_copied.ir
  obtain ⟨B, hB⟩ : ∃ B, B = O.mem false [] [m.cells] := ⟨_, rfl⟩
  refine vc_cut (At [(1, .ptr 0 1 0 0), (2, .ptr 1 1 0 0)] [B, .mem false [] [[nilS, nilS, .bool false, nilS]]]) (by simp -dsimp [At, hB, Model.cells, vVars, vCons, vTerms]) ?_
  try clear h
  rintro ⟨sl, hp, bs⟩ ⟨rfl, h⟩
  simp only [sls_cons, sls_one, sls_nil] at h
  refine vc_cut (At [(1, .ptr 0 1 0 0), (2, .ptr 1 1 0 0), (3, .ptr 2 1 0 0)] [B, .mem false [] [[nilS, nilS, .bool false, nilS]], .mem false [] [[nilS, nilS, .bool m.hasGoal, nilS]]]) (by simp -dsimp [h, At, hB, Model.cells, vVars, vCons, vTerms]) ?_
  try clear h
  rintro ⟨sl, hp, bs⟩ ⟨rfl, h⟩
  simp only [sls_cons, sls_one, sls_nil] at h
  refine vc_cut (fun st => ∃ a, At [(1, .ptr 0 1 0 0), (2, .ptr 1 1 0 0), (3, .ptr 2 1 0 0)] [B, .mem false [] [[nilS, nilS, .bool false, nilS]], .mem false [] [[vVars m.vars, nilS, .bool m.hasGoal, nilS]], a] st) ?_ ?_
  · simp -dsimp [h, At, hB, Model.cells, vVars, vCons, vTerms, tv]
    omega
  rintro ⟨sl, hp, bs⟩ ⟨a, rfl, h⟩; simp only [sls_cons, sls_one] at h
  refine vc_cut (fun st => ∃ b, At [(1, .ptr 0 1 0 0), (2, .ptr 1 1 0 0), (3, .ptr 2 1 0 0)] [B, .mem false [] [[nilS, nilS, .bool false, nilS]], .mem false [] [[vVars m.vars, nilS, .bool m.hasGoal, vTerms m.goal]], a, b] st) ?_ ?_
  · simp -dsimp [h, At, hB, Model.cells, vVars, vCons, vTerms, tg]
    omega
  rintro ⟨sl, hp, bs⟩ ⟨b, rfl, h⟩; simp only [sls_cons, sls_one] at h

  refine vc_cut (fun st => ∃ a b, (m.cons.length = 0 ∧ At [(1, .ptr 0 1 0 0), (2, .ptr 1 1 0 0), (3, .ptr 2 1 0 0)] [B, .mem false [] [[nilS, nilS, .bool false, nilS]], .mem false [] [[vVars m.vars, nilS, .bool m.hasGoal, vTerms m.goal]], a, b] st) ∨ (0 < m.cons.length ∧ ∃ c1 c2 c3 c4 c5, At [(1, .ptr 0 1 0 0), (2, .ptr 1 1 0 0), (3, .ptr 2 1 0 0)] [B, .mem false [] [[nilS, nilS, .bool false, nilS]], .mem false [10] [[vVars m.vars, .own 10 10 0 (m.cons.length) (m.cons.length), .bool m.hasGoal, vTerms m.goal]], a, b, c1, c2, c3, c4, c5, .mem false [] ((m.cons.take (m.cons.length)).map Con.cells)] st)) ?_ ?_
  · refine vc_cut (At [(1, .ptr 0 1 0 0), (2, .ptr 1 1 0 0), (3, .ptr 2 1 0 0), (4, V.i 0)] [B, .mem false [] [[nilS, nilS, .bool false, nilS]], .mem false [] [[vVars m.vars, nilS, .bool m.hasGoal, vTerms m.goal]], a, b]) (by simp -dsimp [h, At]) ?_
    try clear h
    rintro ⟨sl, hp, bs⟩ ⟨rfl, h⟩
    simp only [sls_cons, sls_one, sls_nil] at h
    refine vc_block_of (vc_upto 11 (by simp) m.cons.length (fun i st => ∃ a b, (i = 0 ∧ At [(1, .ptr 0 1 0 0), (2, .ptr 1 1 0 0), (3, .ptr 2 1 0 0), (4, V.i i)] [B, .mem false [] [[nilS, nilS, .bool false, nilS]], .mem false [] [[vVars m.vars, nilS, .bool m.hasGoal, vTerms m.goal]], a, b] st) ∨ (0 < i ∧ ∃ c1 c2 c3 c4 c5, At [(1, .ptr 0 1 0 0), (2, .ptr 1 1 0 0), (3, .ptr 2 1 0 0), (4, V.i i)] [B, .mem false [] [[nilS, nilS, .bool false, nilS]], .mem false [10] [[vVars m.vars, .own 10 10 0 (i) (i), .bool m.hasGoal, vTerms m.goal]], a, b, c1, c2, c3, c4, c5, .mem false [] ((m.cons.take (i)).map Con.cells)] st)) ⟨a, b, .inl ⟨rfl, rfl, by simpa using h⟩⟩ ?_)
    clear h
    rintro i ⟨sl, hp, bs⟩ hi ⟨a, b, hh⟩
    unfold hallmarklaw11_copied.b0
    by_cases hil : i < m.cons.length
    · have hw : IntKind.i64.wrap ((i : Int) + 1) = ((i + 1 : Nat) : Int) := by rw [wrap64] <;> omega
      obtain ⟨c, hcc⟩ : ∃ c, c = m.cons[i] := ⟨_, rfl⟩
      have hsz := hm.e _ (List.getElem_mem hil)
      rw [← hcc] at hsz
      obtain ⟨s1, s2, s3⟩ := hsz
      have t1 : List.take c.terms.length (c.terms.map Term.cells) = c.terms.map Term.cells := List.take_of_length_le (by simp)
      have t2 : List.take c.xs.length (c.xs.map fun n => [V.i n]) = c.xs.map fun n => [V.i n] := List.take_of_length_le (by simp)
      have t3 : List.take c.table.length (c.table.map fun n => [V.i n]) = c.table.map fun n => [V.i n] := List.take_of_length_le (by simp)
      have hT : (m.cons.take (i + 1)).map Con.cells = (m.cons.take i).map Con.cells ++ [c.cells] := by rw [List.take_succ_eq_append_getElem hil, List.map_append, hcc]; rfl
      have hTl : ((m.cons.take i).map Con.cells).length = i := by simp; omega
      rcases hh with ⟨hi0, rfl, h⟩ | ⟨hi0, c1, c2, c3, c4, c5, rfl, h⟩
      · skip
        simp only [sls_cons, sls_one] at h
        refine vc_cut (At [(1, .ptr 0 1 0 0), (2, .ptr 1 1 0 0), (3, .ptr 2 1 0 0), (4, V.i i)] [B, .mem false [] [[nilS, nilS, .bool false, nilS]], .mem false [] [[vVars m.vars, nilS, .bool m.hasGoal, vTerms m.goal]], a, b]) (by simp -dsimp [h, At, hil, hB, Model.cells, vVars, vCons, vTerms, Con.cells, vInts, vIntss]) ?_
        try clear h
        rintro ⟨sl, hp, bs⟩ ⟨rfl, h⟩
        simp only [sls_cons, sls_one, sls_nil] at h
        refine vc_cut (fun st => ∃ c1 c2 c3 c4 c5 E, At [(1, .ptr 0 1 0 0), (2, .ptr 1 1 0 0), (3, .ptr 2 1 0 0), (4, V.i i)] ([B, .mem false [] [[nilS, nilS, .bool false, nilS]], .mem false [10] [[vVars m.vars, .own 10 10 0 (i + 1) (i + 1), .bool m.hasGoal, vTerms m.goal]], a, b, c1, c2, c3, c4, c5, .mem false [] ((m.cons.take (i + 1)).map Con.cells)] ++ E) st) ?_ ?_
        · refine vc_block_of ?_
          refine vc_cut (At [(1, .ptr 0 1 0 0), (2, .ptr 1 1 0 0), (3, .ptr 2 1 0 0), (4, V.i i), (5, .ptr 5 1 0 0)] [B, .mem false [] [[nilS, nilS, .bool false, nilS]], .mem false [] [[vVars m.vars, nilS, .bool m.hasGoal, vTerms m.goal]], a, b, .mem false [] [c.cells]]) (by simp -dsimp [h, At, hil, ← hcc, hB, Model.cells, vVars, vCons, vTerms, Con.cells, vInts, vIntss]) ?_
          try clear h
          rintro ⟨sl, hp, bs⟩ ⟨rfl, h⟩
          simp only [sls_cons, sls_one, sls_nil] at h
          refine vc_cut (fun st => ∃ g1, At [(1, .ptr 0 1 0 0), (2, .ptr 1 1 0 0), (3, .ptr 2 1 0 0), (4, V.i i), (5, .ptr 5 1 0 0)] [B, .mem false [] [[nilS, nilS, .bool false, nilS]], .mem false [] [[vVars m.vars, nilS, .bool m.hasGoal, vTerms m.goal]], a, b, .mem false [] [c.cells], g1] st) ?_ ?_
          · simp -dsimp [h, At, t1, Model.cells, vVars, vCons, vTerms, Con.cells, vInts, vIntss]
            omega
          rintro ⟨sl, hp, bs⟩ ⟨g1, rfl, h⟩; simp only [sls_cons, sls_one] at h
          refine vc_cut (fun st => ∃ g2, At [(1, .ptr 0 1 0 0), (2, .ptr 1 1 0 0), (3, .ptr 2 1 0 0), (4, V.i i), (5, .ptr 5 1 0 0)] [B, .mem false [] [[nilS, nilS, .bool false, nilS]], .mem false [] [[vVars m.vars, nilS, .bool m.hasGoal, vTerms m.goal]], a, b, .mem false [] [c.cells], g1, g2] st) ?_ ?_
          · simp -dsimp [h, At, t2, Model.cells, vVars, vCons, vTerms, Con.cells, vInts, vIntss]
            omega
          rintro ⟨sl, hp, bs⟩ ⟨g2, rfl, h⟩; simp only [sls_cons, sls_one] at h
          refine vc_cut (fun st => ∃ g3, At [(1, .ptr 0 1 0 0), (2, .ptr 1 1 0 0), (3, .ptr 2 1 0 0), (4, V.i i), (5, .ptr 5 1 0 0)] [B, .mem false [] [[nilS, nilS, .bool false, nilS]], .mem false [] [[vVars m.vars, nilS, .bool m.hasGoal, vTerms m.goal]], a, b, .mem false [] [c.cells], g1, g2, g3] st) ?_ ?_
          · simp -dsimp [h, At, t3, Model.cells, vVars, vCons, vTerms, Con.cells, vInts, vIntss]
            omega
          rintro ⟨sl, hp, bs⟩ ⟨g3, rfl, h⟩; simp only [sls_cons, sls_one] at h
          obtain rfl : i = 0 := hi0
          simp only [List.take_zero, List.map_nil, List.nil_append] at hT
          simp -dsimp [h, At, hT, Model.cells, vVars, vCons, vTerms, Con.cells, vInts, vIntss]
        rintro ⟨sl, hp, bs⟩ ⟨c1, c2, c3, c4, c5, E, rfl, h⟩; simp only [sls_cons, sls_one] at h
        simp -dsimp [h, At, hw, hil, hB, limO, Model.cells, vVars, vCons, vTerms, Con.cells, vInts, vIntss]
      · skip
        simp only [sls_cons, sls_one] at h
        refine vc_cut (At [(1, .ptr 0 1 0 0), (2, .ptr 1 1 0 0), (3, .ptr 2 1 0 0), (4, V.i i)] [B, .mem false [] [[nilS, nilS, .bool false, nilS]], .mem false [10] [[vVars m.vars, .own 10 10 0 (i) (i), .bool m.hasGoal, vTerms m.goal]], a, b, c1, c2, c3, c4, c5, .mem false [] ((m.cons.take (i)).map Con.cells)]) (by simp -dsimp [h, At, hil, hB, Model.cells, vVars, vCons, vTerms, Con.cells, vInts, vIntss]) ?_
        try clear h
        rintro ⟨sl, hp, bs⟩ ⟨rfl, h⟩
        simp only [sls_cons, sls_one, sls_nil] at h
        refine vc_cut (fun st => ∃ c1 c2 c3 c4 c5 E, At [(1, .ptr 0 1 0 0), (2, .ptr 1 1 0 0), (3, .ptr 2 1 0 0), (4, V.i i)] ([B, .mem false [] [[nilS, nilS, .bool false, nilS]], .mem false [10] [[vVars m.vars, .own 10 10 0 (i + 1) (i + 1), .bool m.hasGoal, vTerms m.goal]], a, b, c1, c2, c3, c4, c5, .mem false [] ((m.cons.take (i + 1)).map Con.cells)] ++ E) st) ?_ ?_
        · refine vc_block_of ?_
          refine vc_cut (At [(1, .ptr 0 1 0 0), (2, .ptr 1 1 0 0), (3, .ptr 2 1 0 0), (4, V.i i), (5, .ptr 11 1 0 0)] [B, .mem false [] [[nilS, nilS, .bool false, nilS]], .mem false [10] [[vVars m.vars, .own 10 10 0 (i) (i), .bool m.hasGoal, vTerms m.goal]], a, b, c1, c2, c3, c4, c5, .mem false [] ((m.cons.take (i)).map Con.cells), .mem false [] [c.cells]]) (by simp -dsimp [h, At, hil, ← hcc, hB, Model.cells, vVars, vCons, vTerms, Con.cells, vInts, vIntss]) ?_
          try clear h
          rintro ⟨sl, hp, bs⟩ ⟨rfl, h⟩
          simp only [sls_cons, sls_one, sls_nil] at h
          refine vc_cut (fun st => ∃ g1, At [(1, .ptr 0 1 0 0), (2, .ptr 1 1 0 0), (3, .ptr 2 1 0 0), (4, V.i i), (5, .ptr 11 1 0 0)] [B, .mem false [] [[nilS, nilS, .bool false, nilS]], .mem false [10] [[vVars m.vars, .own 10 10 0 (i) (i), .bool m.hasGoal, vTerms m.goal]], a, b, c1, c2, c3, c4, c5, .mem false [] ((m.cons.take (i)).map Con.cells), .mem false [] [c.cells], g1] st) ?_ ?_
          · simp -dsimp [h, At, t1, Model.cells, vVars, vCons, vTerms, Con.cells, vInts, vIntss]
            omega
          rintro ⟨sl, hp, bs⟩ ⟨g1, rfl, h⟩; simp only [sls_cons, sls_one] at h
          refine vc_cut (fun st => ∃ g2, At [(1, .ptr 0 1 0 0), (2, .ptr 1 1 0 0), (3, .ptr 2 1 0 0), (4, V.i i), (5, .ptr 11 1 0 0)] [B, .mem false [] [[nilS, nilS, .bool false, nilS]], .mem false [10] [[vVars m.vars, .own 10 10 0 (i) (i), .bool m.hasGoal, vTerms m.goal]], a, b, c1, c2, c3, c4, c5, .mem false [] ((m.cons.take (i)).map Con.cells), .mem false [] [c.cells], g1, g2] st) ?_ ?_
          · simp -dsimp [h, At, t2, Model.cells, vVars, vCons, vTerms, Con.cells, vInts, vIntss]
            omega
          rintro ⟨sl, hp, bs⟩ ⟨g2, rfl, h⟩; simp only [sls_cons, sls_one] at h
          refine vc_cut (fun st => ∃ g3, At [(1, .ptr 0 1 0 0), (2, .ptr 1 1 0 0), (3, .ptr 2 1 0 0), (4, V.i i), (5, .ptr 11 1 0 0)] [B, .mem false [] [[nilS, nilS, .bool false, nilS]], .mem false [10] [[vVars m.vars, .own 10 10 0 (i) (i), .bool m.hasGoal, vTerms m.goal]], a, b, c1, c2, c3, c4, c5, .mem false [] ((m.cons.take (i)).map Con.cells), .mem false [] [c.cells], g1, g2, g3] st) ?_ ?_
          · simp -dsimp [h, At, t3, Model.cells, vVars, vCons, vTerms, Con.cells, vInts, vIntss]
            omega
          rintro ⟨sl, hp, bs⟩ ⟨g3, rfl, h⟩; simp only [sls_cons, sls_one] at h
          rw [hT]
          generalize hR : (m.cons.take i).map Con.cells = R at *
          simp -dsimp [h, At, hTl, Model.cells, vVars, vCons, vTerms, Con.cells, vInts, vIntss]
          omega
        rintro ⟨sl, hp, bs⟩ ⟨c1, c2, c3, c4, c5, E, rfl, h⟩; simp only [sls_cons, sls_one] at h
        simp -dsimp [h, At, hw, hil, hB, limO, Model.cells, vVars, vCons, vTerms, Con.cells, vInts, vIntss]
    · have hil' : i = m.cons.length := by omega
      rcases hh with ⟨hi0, rfl, h⟩ | ⟨hi0, c1, c2, c3, c4, c5, rfl, h⟩
      · simp only [sls_cons, sls_one] at h
        simp -dsimp [h, At, hil, hB, Model.cells, vVars, vCons, vTerms, Con.cells, vInts, vIntss]
        exact List.length_eq_zero_iff.1 (by omega)
      · simp only [sls_cons, sls_one] at h
        subst hil'
        simp -dsimp [h, At, hil, hB, Model.cells, vVars, vCons, vTerms, Con.cells, vInts, vIntss]
        omega
  rintro ⟨sl, hp, bs⟩ ⟨a, b, ⟨hz, rfl, h⟩ | ⟨hz, c1, c2, c3, c4, c5, rfl, h⟩⟩
  · simp only [sls_cons, sls_one] at h
    simp -dsimp [h, hB, hallmarklaw11_copied.rs, Model.cells, vVars, vCons, vTerms, Con.cells, vInts, vIntss]
    exact List.length_eq_zero_iff.1 hz
  · simp only [sls_cons, sls_one] at h
    simp -dsimp [h, hB, hallmarklaw11_copied.rs, Model.cells, vVars, vCons, vTerms, Con.cells, vInts, vIntss]
    exact List.take_of_length_le (by simp)
end Go.Abs.G

namespace Go.Abs.G
open Go.Proofs
set_option linter.unusedVariables false
set_option linter.unusedSimpArgs false

/-- The pair of both stores, as the laws hold it. -/
def PP (s : List Dom) (ms : List (List Dom)) : Heap := [.mem false [1, 2] [[.ptr 1 1 0 0, .ptr 2 1 0 0]], ST s ms, RT s ms]

theorem begin_spec (m : Model) (hm : Small m) (hz : zModel m) : DC Tryz.prog hallmarklaw11_begin.id [.agg m.cells] [] (fun r H => r = .ptr 0 1 0 0 ∧ H = PP (domsOf m) []) := by
  have hok := hz.1
  refine DC.picks (Q := fun r H => r = .ptr 2 1 0 0 ∧ ∃ B, H = [B, ST (domsOf m) [], .mem false [1, 3] [[.ptr 1 1 0 0, .ptr 3 1 0 0]], RT (domsOf m) []]) ?_ ?_
  · refine DC.of hallmarklaw11_begin.ok (by simp) ?_
    unfold hallmarklaw11_begin.ir
    obtain ⟨B, hB⟩ : ∃ B, B = O.mem false [] [m.cells] := ⟨_, rfl⟩
    refine vc_cut (At [(1, .ptr 0 1 0 0)] [B]) (by simp -dsimp [At, hB, Model.cells, vVars, vCons, vTerms]) ?_
    try clear h
    rintro ⟨sl, hp, bs⟩ ⟨rfl, h⟩
    simp only [sls_cons, sls_one, sls_nil] at h
    refine vc_cut (At [(1, .ptr 0 1 0 0), (3, .ptr 1 1 0 0)] [B, ST (domsOf m) []]) ?_ ?_
    · simp -dsimp [h, hB, Model.cells, vVars, vCons, vTerms]
      refine gcall (copied_spec m hm) (by simp -dsimp [h, Model.cells, vVars, vCons, vTerms]) (by simp -dsimp [h, Model.cells, vVars, vCons, vTerms]) ?_
      simp -dsimp [h]
      refine gcallo (newT m hok) (by simp -dsimp [h]) (by simp -dsimp [h, Model.cells, vVars, vCons, vTerms]) (by simp) ?_
      simp -dsimp [h, At, hB, Model.cells, vVars, vCons, vTerms]
    try clear h
    rintro ⟨sl, hp, bs⟩ ⟨rfl, h⟩
    simp only [sls_cons, sls_one, sls_nil] at h
    refine vc_cut (At [(1, .ptr 0 1 0 0), (3, .ptr 1 1 0 0)] [B, ST (domsOf m) []]) (by simp -dsimp [h, At]) ?_
    try clear h
    rintro ⟨sl, hp, bs⟩ ⟨rfl, h⟩
    simp only [sls_cons, sls_one, sls_nil] at h
    simp -dsimp [h, hB, Model.cells, vVars, vCons, vTerms]
    refine gcallo (newZ m hok) (by simp -dsimp [h, Model.cells, vVars, vCons, vTerms]) (by simp -dsimp [h, Model.cells, vVars, vCons, vTerms]) (by simp) ?_
    simp -dsimp [h, hallmarklaw11_begin.rs]
  · rintro r H ⟨rfl, B, rfl⟩
    exact ⟨[2, 1, 3], ⟨by simp, by simp, by simp, by simp⟩, by simp, by simp [V.ids], by simp, by simp [sub, PP]; decide⟩
end Go.Abs.G

namespace Go.Abs.G
open Go.Proofs
set_option linter.unusedVariables false
set_option linter.unusedSimpArgs false

theorem i64_of {v : Int} (h0 : -4000000000 ≤ v) (h1 : v ≤ 4000000000) : I64 v := by constructor <;> omega
theorem wrapS {n : Int} (h0 : -4000000000 ≤ n) (h1 : n ≤ 4000000000) : IntKind.i64.wrap n = n := wrap64 (by omega) (by omega)

theorem open_small (s : List Dom) : (openB s s.length).length ≤ s.length := by
  unfold openB; rw [List.length_map]; exact Nat.le_trans (List.length_filter_le _ _) (by simp)

theorem like_spec {s : List Dom} {ms : List (List Dom)} (hs : Two s ms) : DC Tryz.prog hallmarklaw11_pair_like.id [.ptr 0 1 0 0] (PP s ms) (fun r H => r = .bool true ∧ H = PP s ms) := by
  have hn := hs.n
  have hM : maxLen = 9223372036854775807 := rfl
  refine DC.of hallmarklaw11_pair_like.ok (by simp) ?_
  unfold hallmarklaw11_pair_like.ir
  obtain ⟨A, hA⟩ : ∃ A, A = O.mem false [1, 2] [[.ptr 1 1 0 0, .ptr 2 1 0 0]] := ⟨_, rfl⟩
  have hPP : PP s ms = [A, ST s ms, RT s ms] := by rw [hA]; rfl
  rw [hPP]
  refine vc_cut (At [(0, .ptr 0 1 0 0)] [A, ST s ms, RT s ms]) (by simp -dsimp [At]) ?_
  try clear h
  rintro ⟨sl, hp, bs⟩ ⟨rfl, h⟩
  simp only [sls_cons, sls_one, sls_nil] at h
  refine vc_cut (At [(0, .ptr 0 1 0 0)] [A, ST s ms, RT s ms]) ?_ ?_
  · simp -dsimp [h, hA]
    refine gcalla1 (varsT hs) 1 (by simp -dsimp [h, addAll]) (by simp) (by simp) (by simp) (by simp) (by simp -dsimp [h]) (by simp -dsimp [h, idx]) (by simp) ?_
    simp -dsimp [h]
    refine gcalla1 (varsZ hs) 2 (by simp -dsimp [h, addAll]) (by simp) (by simp) (by simp) (by simp) (by simp -dsimp [h]) (by simp -dsimp [h, idx]) (by simp) ?_
    simp -dsimp [h]
    refine gcalla1 (openT hs) 1 (by simp -dsimp [h, addAll]) (by simp) (by simp) (by simp) (by simp) (by simp -dsimp [h]) (by simp -dsimp [h, idx]) (by simp) ?_
    simp -dsimp [h]
    refine gcalla1 (openZ hs) 2 (by simp -dsimp [h, addAll]) (by simp) (by simp) (by simp) (by simp) (by simp -dsimp [h]) (by simp -dsimp [h, idx]) (by simp) ?_
    simp -dsimp [h]
    refine gcall (sameInts_spec (openB s s.length) (openB s s.length) (by have := open_small s; omega)) (by simp -dsimp [h]) (by simp -dsimp [h, vInts]) ?_
    simp -dsimp [h, At, hA]
  try clear h
  rintro ⟨sl, hp, bs⟩ ⟨rfl, h⟩
  simp only [sls_cons, sls_one, sls_nil] at h
  refine vc_cut (fun st => st.hp = [A, ST s ms, RT s ms]) ?_ ?_
  · refine vc_cut (At [(0, .ptr 0 1 0 0), (3, V.i ((0 : Nat) - 1 : Int))] [A, ST s ms, RT s ms]) (by simp -dsimp [h, At]) ?_
    try clear h
    rintro ⟨sl, hp, bs⟩ ⟨rfl, h⟩
    simp only [sls_cons, sls_one, sls_nil] at h
    refine vc_block_of (vc_upto 3 (by simp) (s.length + 2) (fun i st => At [(0, .ptr 0 1 0 0), (3, V.i ((i : Nat) - 1 : Int))] [A, ST s ms, RT s ms] st) ⟨rfl, by simpa using h⟩ ?_)
    clear h
    rintro i ⟨sl, hp, bs⟩ hi ⟨rfl, h⟩
    simp only [sls_cons, sls_one] at h
    unfold hallmarklaw11_pair_like.b0
    by_cases hil : i ≤ s.length + 1
    · have hw : IntKind.i64.wrap (((i : Nat) - 1 : Int) + 1) = ((i + 1 : Nat) - 1 : Int) := by rw [wrap64] <;> omega
      have hil' : ((i : Nat) - 1 : Int) ≤ s.length := by omega
      obtain ⟨x, hx⟩ : ∃ x : Int, x = (i : Nat) - 1 := ⟨_, rfl⟩
      rw [← hx] at h hil' hw
      have hlo := lo_range hs.d x
      have hhi := hi_range hs.d x
      have hlh := lo_le_hi (s := s) x
      refine vc_cut (At [(0, .ptr 0 1 0 0), (3, V.i x)] [A, ST s ms, RT s ms]) ?_ ?_
      · simp -dsimp [h, hA]
        refine gcallm1 (varsZ hs) 2 (by simp -dsimp [h, addAll]) (by simp -dsimp [h]) (by simp) (by simp) (by simp) (by simp -dsimp [h, idx]) (by simp) ?_
        simp -dsimp [h, hil', At, hA]
      try clear h
      rintro ⟨sl, hp, bs⟩ ⟨rfl, h⟩
      simp only [sls_cons, sls_one, sls_nil] at h
      refine vc_cut (At [(0, .ptr 0 1 0 0), (3, V.i x)] [A, ST s ms, RT s ms]) ?_ ?_
      · refine vc_block_of ?_
        refine vc_cut (At [(0, .ptr 0 1 0 0), (3, V.i x)] [A, ST s ms, RT s ms]) ?_ ?_
        · simp -dsimp [h, hA]
          refine gcalla1 (loT hs x) 1 (by simp -dsimp [h, addAll]) (by simp) (by simp) (by simp) (by simp) (by simp -dsimp [h]) (by simp -dsimp [h, idx]) (by simp) ?_
          simp -dsimp [h]
          refine gcalla1 (loZ hs x) 2 (by simp -dsimp [h, addAll]) (by simp) (by simp) (by simp) (by simp) (by simp -dsimp [h]) (by simp -dsimp [h, idx]) (by simp) ?_
          simp -dsimp [h]
          refine gcalla1 (hiT hs x) 1 (by simp -dsimp [h, addAll]) (by simp) (by simp) (by simp) (by simp) (by simp -dsimp [h]) (by simp -dsimp [h, idx]) (by simp) ?_
          simp -dsimp [h]
          refine gcalla1 (hiZ hs x) 2 (by simp -dsimp [h, addAll]) (by simp) (by simp) (by simp) (by simp) (by simp -dsimp [h]) (by simp -dsimp [h, idx]) (by simp) ?_
          simp -dsimp [h]
          refine gcalla1 (sizeT hs x) 1 (by simp -dsimp [h, addAll]) (by simp) (by simp) (by simp) (by simp) (by simp -dsimp [h]) (by simp -dsimp [h, idx]) (by simp) ?_
          simp -dsimp [h]
          refine gcalla1 (sizeZ hs x) 2 (by simp -dsimp [h, addAll]) (by simp) (by simp) (by simp) (by simp) (by simp -dsimp [h]) (by simp -dsimp [h, idx]) (by simp) ?_
          simp -dsimp [h]
          refine gcalla1 (valuesT hs x) 1 (by simp -dsimp [h, addAll]) (by simp) (by simp) (by simp) (by simp) (by simp -dsimp [h]) (by simp -dsimp [h, idx]) (by simp) ?_
          simp -dsimp [h]
          refine gcalla1 (valuesZ hs x) 2 (by simp -dsimp [h, addAll]) (by simp) (by simp) (by simp) (by simp) (by simp -dsimp [h]) (by simp -dsimp [h, idx]) (by simp) ?_
          simp -dsimp [h]
          refine gcall (sameInts_spec (valsB s x) (valsB s x) (by have := valsB_small hs.d x; omega)) (by simp -dsimp [h]) (by simp -dsimp [h, vInts]) ?_
          simp -dsimp [h, At, hA]
        try clear h
        rintro ⟨sl, hp, bs⟩ ⟨rfl, h⟩
        simp only [sls_cons, sls_one, sls_nil] at h
        refine vc_cut (At [(0, .ptr 0 1 0 0), (3, V.i x), (4, V.i (loB s x - 2 + (0 : Nat)))] [A, ST s ms, RT s ms]) ?_ ?_
        · simp -dsimp [h, hA]
          refine gcallm1 (loZ hs x) 2 (by simp -dsimp [h, addAll]) (by simp -dsimp [h]) (by simp) (by simp) (by simp) (by simp -dsimp [h, idx]) (by simp) ?_
          simp -dsimp [h, wrapS, hlo, At, hA]
          rw [wrapS] <;> omega
        try clear h
        rintro ⟨sl, hp, bs⟩ ⟨rfl, h⟩
        simp only [sls_cons, sls_one, sls_nil] at h
        refine vc_block_of (vc_upto 3 (by simp) (hiB s x - loB s x + 5).toNat (fun j st => At [(0, .ptr 0 1 0 0), (3, V.i x), (4, V.i (loB s x - 2 + (j : Nat)))] [A, ST s ms, RT s ms] st) ⟨rfl, by simpa using h⟩ ?_)
        clear h
        rintro j ⟨sl, hp, bs⟩ hj ⟨rfl, h⟩
        simp only [sls_cons, sls_one] at h
        unfold hallmarklaw11_pair_like.b1
        have w1 : IntKind.i64.wrap (hiB s x + 2) = hiB s x + 2 := by rw [wrapS] <;> omega
        obtain ⟨v, hv⟩ : ∃ v : Int, v = loB s x - 2 + (j : Nat) := ⟨_, rfl⟩
        rw [← hv] at h
        by_cases hjl : v ≤ hiB s x + 2
        · have w2 : IntKind.i64.wrap (v + 1) = loB s x - 2 + (j + 1 : Nat) := by rw [wrapS] <;> omega
          refine vc_cut (At [(0, .ptr 0 1 0 0), (3, V.i x), (4, V.i v)] [A, ST s ms, RT s ms]) ?_ ?_
          · simp -dsimp [h, hA]
            refine gcallm1 (hiZ hs x) 2 (by simp -dsimp [h, addAll]) (by simp -dsimp [h]) (by simp) (by simp) (by simp) (by simp -dsimp [h, idx]) (by simp) ?_
            simp -dsimp [h, w1, hjl, At, hA]
          try clear h
          rintro ⟨sl, hp, bs⟩ ⟨rfl, h⟩
          simp only [sls_cons, sls_one, sls_nil] at h
          refine vc_cut (At [(0, .ptr 0 1 0 0), (3, V.i x), (4, V.i v)] [A, ST s ms, RT s ms]) ?_ ?_
          · refine vc_block_of ?_
            simp -dsimp [h, hA]
            refine gcalla1 (hasT hs x v (i64_of (by omega) (by omega))) 1 (by simp -dsimp [h, addAll]) (by simp) (by simp) (by simp) (by simp) (by simp -dsimp [h]) (by simp -dsimp [h, idx]) (by simp) ?_
            simp -dsimp [h]
            refine gcalla1 (hasZ hs x v) 2 (by simp -dsimp [h, At, hA, addAll]) (by simp) (by simp) (by simp) (by simp) (by simp -dsimp [h, At, hA]) (by simp -dsimp [h, At, hA, idx]) (by simp) ?_
            simp -dsimp [h, At, hA]
          try clear h
          rintro ⟨sl, hp, bs⟩ ⟨rfl, h⟩
          simp only [sls_cons, sls_one, sls_nil] at h
          simp -dsimp [h, At, w2, hA]
          omega
        · simp -dsimp [h, hA]
          refine gcallm1 (hiZ hs x) 2 (by simp -dsimp [h, addAll]) (by simp -dsimp [h]) (by simp) (by simp) (by simp) (by simp -dsimp [h, idx]) (by simp) ?_
          simp -dsimp [h, w1, hjl, At, hA]
      try clear h
      rintro ⟨sl, hp, bs⟩ ⟨rfl, h⟩
      simp only [sls_cons, sls_one, sls_nil] at h
      simp -dsimp [h, At, hw, hA]
      omega
    · have hil' : ¬ ((i : Nat) - 1 : Int) ≤ s.length := by omega
      simp -dsimp [h, hA]
      refine gcallm1 (varsZ hs) 2 (by simp -dsimp [h, addAll]) (by simp -dsimp [h]) (by simp) (by simp) (by simp) (by simp -dsimp [h, idx]) (by simp) ?_
      simp -dsimp [h, hil', At, hA]
  · rintro ⟨sl, hp, bs⟩ rfl
    simp -dsimp [hallmarklaw11_pair_like.rs, hPP]
end Go.Abs.G

/- More calls as steps. -/
namespace Go.Abs
set_option linter.unusedVariables false
section
variable {P : Program} {k : St → Prop} {st : St} {d : Option Nat} {ap : List Nat} {f : FuncId} {xs : List Operand}
theorem gcalla {zs : List V} {H0 : Heap} {r0 : V} {H1 : Heap} (hc : DC P f zs H0 fun r H => r = r0 ∧ H = H1) (sel : List Nat) (hs : clos st.hp 8 (addAll [] (V.idsL (xs.map st.ev))) = sel) (hok : OkSel st.hp sel) (hap : ∀ t ∈ ap, ∀ k, (gt st.sl t).oid = some k → k ∉ sel) (ha : V.renL (idx sel) (xs.map st.ev) = zs) (hH : sub st.hp sel = H0)
    (hf : okFunc P f = true) (hk : k ({ st with hp := merge st.hp sel H1 }.put d (r0.ren (back sel st.hp.length)))) : IvcF P (.calla ap d (.func f) xs) k st := calla_go hc sel hs hok hap ha hH hf hk
theorem gcalla_gen {zs : List V} {H0 : Heap} {Q : V → Heap → Prop} (hc : DC P f zs H0 Q) (sel : List Nat) (hs : clos st.hp 8 (addAll [] (V.idsL (xs.map st.ev))) = sel) (hok : OkSel st.hp sel) (hap : ∀ t ∈ ap, ∀ k, (gt st.sl t).oid = some k → k ∉ sel) (ha : V.renL (idx sel) (xs.map st.ev) = zs) (hH : sub st.hp sel = H0)
    (hf : okFunc P f = true) (hk : ∀ r H', Q r H' → k ({ st with hp := merge st.hp sel H' }.put d (r.ren (back sel st.hp.length)))) : IvcF P (.calla ap d (.func f) xs) k st := calla_gen hc sel hs hok hap ha hH hf hk
theorem gcalla2 {zs : List V} {r0 : V} {o o2 : O} (hc : DC P f zs [o, o2] fun r H => r = r0 ∧ H = [o, o2]) (p q : Nat) (hne : p ≠ q) (hi : addAll [] (V.idsL (xs.map st.ev)) = [p, q]) (hp : st.hp[p]? = some o) (hq : st.hp[q]? = some o2) (c : o.clo) (c2 : o2.clo)
    (hap : ∀ t ∈ ap, (gt st.sl t).oid ≠ some p ∧ (gt st.sl t).oid ≠ some q)
    (ha : V.renL (idx [p, q]) (xs.map st.ev) = zs) (hf : okFunc P f = true) (hk : k (st.put d (r0.ren (back [p, q] st.hp.length)))) : IvcF P (.calla ap d (.func f) xs) k st := by
  refine gcalla hc [p, q] ?_ ⟨by simp [hne], fun i hi => ?_, fun i hi => ?_, fun i hi j hj => ?_⟩ (fun t ht k hk => ?_) ha ?_ hf ?_
  · rw [hi]
    refine clos_stop _ _ _ fun i hi j hj => ?_
    simp only [List.mem_cons, List.not_mem_nil, or_false] at hi
    rcases hi with rfl | rfl
    · rw [getD_some hp, c.refs] at hj; cases hj
    · rw [getD_some hq, c2.refs] at hj; cases hj
  · simp only [List.mem_cons, List.not_mem_nil, or_false] at hi
    rcases hi with rfl | rfl
    · exact lt_of_get hp
    · exact lt_of_get hq
  · simp only [List.mem_cons, List.not_mem_nil, or_false] at hi
    rcases hi with rfl | rfl
    · rw [getD_some hp]; exact c.nres
    · rw [getD_some hq]; exact c2.nres
  · simp only [List.mem_cons, List.not_mem_nil, or_false] at hi
    rcases hi with rfl | rfl
    · rw [getD_some hp, c.refs] at hj; cases hj
    · rw [getD_some hq, c2.refs] at hj; cases hj
  · simp only [List.mem_cons, List.not_mem_nil, or_false, not_or]
    have := hap t ht
    exact ⟨fun e => this.1 (by rw [hk, e]), fun e => this.2 (by rw [hk, e])⟩
  · simp only [sub, List.map_cons, List.map_nil, getD_some hp, getD_some hq, c.ren, c2.ren]
  · have : merge st.hp [p, q] [o, o2] = st.hp := by
      simp only [merge, List.length_cons, List.length_nil, Nat.zero_add, Nat.reduceAdd, List.take_succ_cons, List.take_zero, List.map_cons, List.map_nil, List.drop_succ_cons, List.drop_zero, List.append_nil, place, c.ren, c2.ren, set_same hp, set_same hq]
    rw [this]; exact hk
end
end Go.Abs

/- The pair of stores anywhere in a heap, handed to a call. -/
namespace Go.Abs.G
open Go.Proofs
set_option linter.unusedVariables false

def Pa (a r : Nat) : O := .mem false [a, r] [[.ptr a 1 0 0, .ptr r 1 0 0]]
@[simp] theorem Pa_isMem (a r : Nat) : (Pa a r).isMem = true := rfl
@[simp] theorem Pa_rows (a r : Nat) : (Pa a r).rows = [[.ptr a 1 0 0, .ptr r 1 0 0]] := rfl
@[simp] theorem Pa_refs (a r : Nat) : (Pa a r).refs = [a, r] := rfl
@[simp] theorem Pa_tot (a r n : Nat) : (Pa a r).hasTot n = (1 = n) := rfl
structure PPat (K : Heap) (p a r : Nat) (s : List Dom) (ms : List (List Dom)) : Prop where
  pa : p ≠ a
  pr : p ≠ r
  ar : a ≠ r
  hp : K[p]? = some (Pa a r)
  ha : K[a]? = some (ST s ms)
  hr : K[r]? = some (RT s ms)
def PX (s : List Dom) (ms : List (List Dom)) (X : O) : Heap := [.mem false [3, 2] [[.ptr 3 1 0 0, .ptr 2 1 0 0]], X, RT s ms, ST s ms]

section
variable {K : Heap} {p a r : Nat} {s : List Dom} {ms : List (List Dom)} (h : PPat K p a r s ms)
include h
theorem PPat.dp : K.getD p .dead = Pa a r := getD_some h.hp
theorem PPat.da : K.getD a .dead = ST s ms := getD_some h.ha
theorem PPat.dr : K.getD r .dead = RT s ms := getD_some h.hr
theorem PPat.clos : clos K 8 [p] = [p, a, r] := by
  have h1 := h.dp; have h2 := h.da; have h3 := h.dr
  have e : addAll [p] ([p].flatMap fun i => (K.getD i .dead).refs) = [p, a, r] := by
    have n1 := h.pa.symm; have n2 := h.pr.symm; have n3 := h.ar.symm
    simp only [List.flatMap_cons, List.flatMap_nil, List.append_nil, h1]
    show addAll [p] [a, r] = _
    simp [addAll, n1, n2, n3]
  show Abs.clos K 7 (addAll [p] ([p].flatMap fun i => (K.getD i .dead).refs)) = _
  rw [e]
  refine clos_stop _ _ _ fun i hi k hk => ?_
  simp only [List.mem_cons, List.not_mem_nil, or_false] at hi
  rcases hi with rfl | rfl | rfl
  · rw [h1] at hk; simp only [Pa, refs_mem, List.mem_cons, List.not_mem_nil, or_false] at hk; rcases hk with rfl | rfl <;> simp
  · rw [h2] at hk; simp at hk
  · rw [h3] at hk; simp at hk
theorem PPat.ok : OkSel K [p, a, r] := by
  have h1 := h.dp; have h2 := h.da; have h3 := h.dr
  have n1 := h.pa; have n2 := h.pr; have n3 := h.ar
  refine ⟨by simp [n1, n2, n3], fun i hi => ?_, fun i hi => ?_, fun i hi k hk => ?_⟩ <;> (simp only [List.mem_cons, List.not_mem_nil, or_false] at hi; rcases hi with rfl | rfl | rfl)
  · exact lt_of_get h.hp
  · exact lt_of_get h.ha
  · exact lt_of_get h.hr
  · rw [h1]; simp [Pa]
  · rw [h2]; simp
  · rw [h3]; simp
  · rw [h1] at hk; simp only [Pa, refs_mem, List.mem_cons, List.not_mem_nil, or_false] at hk; rcases hk with rfl | rfl <;> simp
  · rw [h2] at hk; simp at hk
  · rw [h3] at hk; simp at hk
theorem PPat.sub : sub K [p, a, r] = PP s ms := by
  have n1 := h.pa; have n2 := h.pr; have n3 := h.ar
  simp only [Abs.sub, List.map_cons, List.map_nil, h.dp, h.da, h.dr]
  have b1 : (p == a) = false := by simpa using n1
  have b2 : (p == r) = false := by simpa using n2
  have b3 : (a == r) = false := by simpa using n3
  simp [Pa, PP, idx, List.idxOf_cons, b1, b2, b3]
theorem PPat.idx : idx [p, a, r] p = 0 := by simp [Abs.idx]
theorem PPat.merge (s' : List Dom) (ms' : List (List Dom)) : merge K [p, a, r] (PP s' ms') = (K.set a (ST s' ms')).set r (RT s' ms') := by
  have e : K.set p (Pa a r) = K := set_same h.hp
  simp only [Abs.merge, PP, List.length_cons, List.length_nil, List.take, List.drop, List.map_cons, List.map_nil, place, List.append_nil]
  have : O.ren (back [p, a, r] K.length) (.mem false [1, 2] [[.ptr 1 1 0 0, .ptr 2 1 0 0]]) = Pa a r := by simp [Pa, back]
  rw [this, e, ST_ren, RT_ren]
theorem PPat.put (s' : List Dom) (ms' : List (List Dom)) : PPat ((K.set a (ST s' ms')).set r (RT s' ms')) p a r s' ms' := by
  have n1 := h.pa; have n2 := h.pr; have n3 := h.ar
  refine ⟨n1, n2, n3, ?_, ?_, ?_⟩
  · rw [getElem?_set_ne' n2, getElem?_set_ne' n1]; exact h.hp
  · rw [getElem?_set_ne' n3]; exact get_set h.ha
  · exact get_set (by rw [getElem?_set_ne' n3.symm]; exact h.hr)
end

section
variable {P : Program} {k : St → Prop} {st : St} {d : Option Nat} {ap : List Nat} {f : FuncId} {xs : List Operand} {p a r : Nat} {s s' : List Dom} {ms ms' : List (List Dom)}
theorem gcallP {zs : List V} {Q : V → Heap → Prop} (h : PPat st.hp p a r s ms) (hc : DC P f zs (PP s ms) Q) (hi : addAll [] (V.idsL (xs.map st.ev)) = [p]) (ha : V.renL (idx [p, a, r]) (xs.map st.ev) = zs)
    (hf : okFunc P f = true) (hk : ∀ r0 H', Q r0 H' → k ({ st with hp := merge st.hp [p, a, r] H' }.put d (r0.ren (back [p, a, r] st.hp.length)))) : IvcF P (.callm d (.func f) xs) k st :=
  gcallm_gen hc [p, a, r] (by rw [hi]; exact h.clos) h.ok ha h.sub hf hk
theorem gcallaP {zs : List V} {Q : V → Heap → Prop} (h : PPat st.hp p a r s ms) (hc : DC P f zs (PP s ms) Q) (hi : addAll [] (V.idsL (xs.map st.ev)) = [p]) (hap : ∀ t ∈ ap, ∀ k, (gt st.sl t).oid = some k → k ∉ [p, a, r]) (ha : V.renL (idx [p, a, r]) (xs.map st.ev) = zs)
    (hf : okFunc P f = true) (hk : ∀ r0 H', Q r0 H' → k ({ st with hp := merge st.hp [p, a, r] H' }.put d (r0.ren (back [p, a, r] st.hp.length)))) : IvcF P (.calla ap d (.func f) xs) k st :=
  gcalla_gen hc [p, a, r] (by rw [hi]; exact h.clos) h.ok hap ha h.sub hf hk
/-- Both stores looked at: nothing changes. -/
theorem PPat.keep (h : PPat st.hp p a r s ms) : Abs.merge st.hp [p, a, r] (PP s ms) = st.hp := by
  rw [h.merge, set_same h.ha, set_same h.hr]
end
end Go.Abs.G

namespace Go.Abs.G
open Go.Proofs
set_option linter.unusedVariables false
set_option linter.unusedSimpArgs false

/-- What one call makes of the stores. -/
def nextS (s : List Dom) (ms : List (List Dom)) (o : DOp) : List Dom × List (List Dom) :=
  if o.kind = 1 then ((cutS s o.ck o.cx o.cv).1, ms) else if o.kind = 2 then (s, ms ++ [s])
  else if o.kind = 3 then (if h : 0 ≤ o.n ∧ o.n.toNat < ms.length then (ms[o.n.toNat], ms.take o.n.toNat) else (s, ms)) else (s, ms)
theorem nextS_two {s : List Dom} {ms : List (List Dom)} (hs : Two s ms) (hk : ms.length + 1 ≤ 1000000) (o : DOp) : Two (nextS s ms o).1 (nextS s ms o).2 ∧ (nextS s ms o).2.length ≤ ms.length + 1 := by
  unfold nextS
  split
  · exact ⟨hs.cut _ _ _, by simp⟩
  · split
    · exact ⟨hs.mark hk, by simp⟩
    · split
      · split
        · next h => exact ⟨hs.back h.2, by simp; omega⟩
        · exact ⟨hs, by simp⟩
      · exact ⟨hs, by simp⟩

/-- The old stores, each cut to its least values. -/
def leastS (s : List Dom) : Nat → List Dom
  | 0 => s
  | n + 1 => (cutS (leastS s n) 2 n (loB (leastS s n) n)).1
theorem leastS_two {s : List Dom} {ms : List (List Dom)} (hs : Two s ms) : ∀ n, Two (leastS s n) ms
  | 0 => hs
  | n + 1 => (leastS_two hs n).cut _ _ _
theorem leastS_len (s : List Dom) : ∀ n, (leastS s n).length = s.length
  | 0 => rfl
  | n + 1 => by rw [leastS, cutS_len, leastS_len s n]
theorem back0 {s : List Dom} {ms : List (List Dom)} (hs : Two s ms) : ∃ s' ms' b, Two s' ms' ∧ DC Tryz.prog dom_Store_Back.id [.ptr 0 1 0 0, V.i 0] [ST s ms] (fun r H => r = .bool b ∧ H = [ST s' ms']) ∧ DC Tryz.prog hallmarkref11_Store_Back.id [.ptr 0 1 0 0, V.i 0] [RT s ms] (fun r H => r = .bool b ∧ H = [RT s' ms']) := by
  by_cases h : 0 < ms.length
  · exact ⟨_, _, true, hs.back h, backT_yes hs 0 h, backZ_yes hs 0 h⟩
  · exact ⟨_, _, false, hs, backT_no hs 0 (by omega), backZ_no hs 0 (by omega)⟩

theorem plays_a {s : List Dom} {ms : List (List Dom)} (hs : Two s ms) (hk : ms.length + 1 ≤ 1000000) (o : DOp) (hk45 : ¬ (o.kind = 4 ∨ o.kind = 5)) :
    DC Tryz.prog hallmarklaw11_pair_plays.id [.ptr 0 1 0 0, .agg o.cells] (PP s ms) (fun r H => r = .bool true ∧ ((∃ B, H = PP (nextS s ms o).1 (nextS s ms o).2 ++ [B]) ∨ o.kind = 5 ∧ ∃ rf X B C D, X.clo ∧ H = [.mem false rf [[.ptr 4 1 0 0, .ptr 2 1 0 0]], X, RT s ms, B, ST s ms, C, D])) := by
  have hn := hs.n
  refine DC.of hallmarklaw11_pair_plays.ok (by simp) ?_
  unfold hallmarklaw11_pair_plays.ir
  obtain ⟨A, hA⟩ : ∃ A, A = O.mem false [1, 2] [[.ptr 1 1 0 0, .ptr 2 1 0 0]] := ⟨_, rfl⟩
  obtain ⟨B, hB⟩ : ∃ B, B = O.mem false [] [o.cells] := ⟨_, rfl⟩
  have hPP : ∀ s ms, PP s ms = [A, ST s ms, RT s ms] := fun s ms => by rw [hA]; rfl
  rw [hPP s ms]
  refine vc_cut (At [(0, .ptr 0 1 0 0), (3, .ptr 3 1 0 0)] [A, ST s ms, RT s ms, B]) (by simp -dsimp [At, hB, DOp.cells]) ?_
  try clear h
  rintro ⟨sl, hp, bs⟩ ⟨rfl, h⟩
  simp only [sls_cons, sls_one, sls_nil] at h
  refine vc_cut (fun st => nextS s ms o = (s, ms) ∧ st.hp = [A, ST s ms, RT s ms, B]) ?_ ?_
  · refine vc_cut (At [(0, .ptr 0 1 0 0), (3, .ptr 3 1 0 0), (16, V.i o.kind)] [A, ST s ms, RT s ms, B]) (by simp -dsimp [h, At, hB, DOp.cells]) ?_
    try clear h
    rintro ⟨sl, hp, bs⟩ ⟨rfl, h⟩
    simp only [sls_cons, sls_one, sls_nil] at h
    by_cases k1 : o.kind = 1
    · have e : nextS s ms o = ((cutS s o.ck o.cx o.cv).1, ms) := by simp [nextS, k1]
      simp -dsimp [h, k1, hA, hB, DOp.cells]
      refine gcalla1 (cutT hs o.ck o.cx o.cv) 1 (by simp -dsimp [h, addAll]) (by simp) (by simp) (by simp) (by simp) (by simp -dsimp [h]) (by simp -dsimp [h, idx]) (by simp) ?_
      simp -dsimp [h]
      refine gcalla1 (cutZ hs o.ck o.cx o.cv) 2 (by simp -dsimp [h, hallmarklaw11_pair_plays.rs, e, PP, addAll]) (by simp) (by simp) (by simp) (by simp) (by simp -dsimp [h, hallmarklaw11_pair_plays.rs, e, PP]) (by simp -dsimp [h, hallmarklaw11_pair_plays.rs, e, PP, idx]) (by simp) ?_
      simp -dsimp [h, hallmarklaw11_pair_plays.rs, e, PP]
    · by_cases k2 : o.kind = 2
      · have e : nextS s ms o = (s, ms ++ [s]) := by simp [nextS, k1, k2]
        simp -dsimp [h, k1, k2, hA, hB, DOp.cells]
        refine gcalla1 (markT hs) 1 (by simp -dsimp [h, addAll]) (by simp) (by simp) (by simp) (by simp) (by simp -dsimp [h]) (by simp -dsimp [h, idx]) (by simp) ?_
        simp -dsimp [h]
        refine gcalla1 (markZ hs) 2 (by simp -dsimp [h, hallmarklaw11_pair_plays.rs, e, PP, addAll]) (by simp) (by simp) (by simp) (by simp) (by simp -dsimp [h, hallmarklaw11_pair_plays.rs, e, PP]) (by simp -dsimp [h, hallmarklaw11_pair_plays.rs, e, PP, idx]) (by simp) ?_
        simp -dsimp [h, hallmarklaw11_pair_plays.rs, e, PP]
      · by_cases k3 : o.kind = 3
        · by_cases h0 : 0 ≤ o.n ∧ o.n.toNat < ms.length
          · have e : nextS s ms o = (ms[o.n.toNat], ms.take o.n.toNat) := by simp [nextS, k1, k2, k3, h0]
            have b1 := backT_yes hs o.n.toNat h0.2
            have b2 := backZ_yes hs o.n.toNat h0.2
            rw [Int.toNat_of_nonneg h0.1] at b1 b2
            simp -dsimp [h, k1, k2, k3, hA, hB, DOp.cells]
            refine gcalla1 (b1) 1 (by simp -dsimp [h, addAll]) (by simp) (by simp) (by simp) (by simp) (by simp -dsimp [h]) (by simp -dsimp [h, idx]) (by simp) ?_
            simp -dsimp [h]
            refine gcalla1 (b2) 2 (by simp -dsimp [h, hallmarklaw11_pair_plays.rs, e, PP, addAll]) (by simp) (by simp) (by simp) (by simp) (by simp -dsimp [h, hallmarklaw11_pair_plays.rs, e, PP]) (by simp -dsimp [h, hallmarklaw11_pair_plays.rs, e, PP, idx]) (by simp) ?_
            simp -dsimp [h, hallmarklaw11_pair_plays.rs, e, PP]
          · have e : nextS s ms o = (s, ms) := by simp [nextS, k1, k2, k3, h0]
            have b1 := backT_no hs o.n (by omega)
            have b2 := backZ_no hs o.n (by omega)
            simp -dsimp [h, k1, k2, k3, hA, hB, DOp.cells]
            refine gcalla1 (b1) 1 (by simp -dsimp [h, addAll]) (by simp) (by simp) (by simp) (by simp) (by simp -dsimp [h]) (by simp -dsimp [h, idx]) (by simp) ?_
            simp -dsimp [h]
            refine gcalla1 (b2) 2 (by simp -dsimp [h, hallmarklaw11_pair_plays.rs, e, PP, addAll]) (by simp) (by simp) (by simp) (by simp) (by simp -dsimp [h, hallmarklaw11_pair_plays.rs, e, PP]) (by simp -dsimp [h, hallmarklaw11_pair_plays.rs, e, PP, idx]) (by simp) ?_
            simp -dsimp [h, hallmarklaw11_pair_plays.rs, e, PP]
        · have e : nextS s ms o = (s, ms) := by simp [nextS, k1, k2, k3]
          have k4 : o.kind ≠ 4 := fun e => hk45 (.inl e)
          have k5 : o.kind ≠ 5 := fun e => hk45 (.inr e)
          simp -dsimp [h, k1, k2, k3, k4, k5, hA, hB, DOp.cells, e, At]
  · rintro ⟨sl, hp, bs⟩ ⟨e, rfl⟩
    simp -dsimp [hallmarklaw11_pair_plays.rs, e, hPP]

theorem plays_b {s : List Dom} {ms : List (List Dom)} (hs : Two s ms) (hk : ms.length + 1 ≤ 1000000) (o : DOp) (k4 : o.kind = 4) :
    DC Tryz.prog hallmarklaw11_pair_plays.id [.ptr 0 1 0 0, .agg o.cells] (PP s ms) (fun r H => r = .bool true ∧ ((∃ B, H = PP (nextS s ms o).1 (nextS s ms o).2 ++ [B]) ∨ o.kind = 5 ∧ ∃ rf X B C D, X.clo ∧ H = [.mem false rf [[.ptr 4 1 0 0, .ptr 2 1 0 0]], X, RT s ms, B, ST s ms, C, D])) := by
  have hn := hs.n
  refine DC.of hallmarklaw11_pair_plays.ok (by simp) ?_
  unfold hallmarklaw11_pair_plays.ir
  obtain ⟨A, hA⟩ : ∃ A, A = O.mem false [1, 2] [[.ptr 1 1 0 0, .ptr 2 1 0 0]] := ⟨_, rfl⟩
  obtain ⟨B, hB⟩ : ∃ B, B = O.mem false [] [o.cells] := ⟨_, rfl⟩
  have hPP : ∀ s ms, PP s ms = [A, ST s ms, RT s ms] := fun s ms => by rw [hA]; rfl
  rw [hPP s ms]
  refine vc_cut (At [(0, .ptr 0 1 0 0), (3, .ptr 3 1 0 0)] [A, ST s ms, RT s ms, B]) (by simp -dsimp [At, hB, DOp.cells]) ?_
  try clear h
  rintro ⟨sl, hp, bs⟩ ⟨rfl, h⟩
  simp only [sls_cons, sls_one, sls_nil] at h
  refine vc_cut (fun st => nextS s ms o = (s, ms) ∧ st.hp = [A, ST s ms, RT s ms, B]) ?_ ?_
  · refine vc_cut (At [(0, .ptr 0 1 0 0), (3, .ptr 3 1 0 0), (16, V.i o.kind)] [A, ST s ms, RT s ms, B]) (by simp -dsimp [h, At, hB, DOp.cells]) ?_
    try clear h
    rintro ⟨sl, hp, bs⟩ ⟨rfl, h⟩
    simp only [sls_cons, sls_one, sls_nil] at h
    have k1 : o.kind ≠ 1 := by omega
    have k2 : o.kind ≠ 2 := by omega
    have k3 : o.kind ≠ 3 := by omega
    have e : nextS s ms o = (s, ms) := by simp [nextS, k1, k2, k3]
    have h' : gt sl 0 = .ptr 0 1 0 0 ∧ gt sl 16 = V.i 4 := ⟨h.1, by rw [h.2.2, k4]⟩
    simp -dsimp [h']
    refine gcallP (p := 0) (a := 1) (r := 2) (s := s) (ms := ms) ⟨by simp, by simp, by simp, by simp [hA, Pa], by simp, by simp⟩ (like_spec hs) (by simp -dsimp [h', addAll]) (by simp -dsimp [h', idx]) (by simp) ?_
    rintro r H ⟨rfl, rfl⟩
    rw [PPat.keep ⟨by simp, by simp, by simp, by simp [hA, Pa], by simp, by simp⟩]
    simp -dsimp [h', hallmarklaw11_pair_plays.rs, e, hPP]
  · rintro ⟨sl, hp, bs⟩ ⟨e, rfl⟩
    simp -dsimp [hallmarklaw11_pair_plays.rs, e, hPP]

end Go.Abs.G

namespace Go.Abs.G
open Go.Proofs
set_option linter.unusedVariables false
set_option linter.unusedSimpArgs false

theorem plays_c {s : List Dom} {ms : List (List Dom)} (hs : Two s ms) (hk : ms.length + 1 ≤ 1000000) (o : DOp) (k5 : o.kind = 5) :
    DC Tryz.prog hallmarklaw11_pair_plays.id [.ptr 0 1 0 0, .agg o.cells] (PP s ms) (fun r H => r = .bool true ∧ ((∃ B, H = PP (nextS s ms o).1 (nextS s ms o).2 ++ [B]) ∨ o.kind = 5 ∧ ∃ rf X B C D, X.clo ∧ H = [.mem false rf [[.ptr 4 1 0 0, .ptr 2 1 0 0]], X, RT s ms, B, ST s ms, C, D])) := by
  have hn := hs.n
  refine DC.of hallmarklaw11_pair_plays.ok (by simp) ?_
  unfold hallmarklaw11_pair_plays.ir
  obtain ⟨A, hA⟩ : ∃ A, A = O.mem false [1, 2] [[.ptr 1 1 0 0, .ptr 2 1 0 0]] := ⟨_, rfl⟩
  obtain ⟨B, hB⟩ : ∃ B, B = O.mem false [] [o.cells] := ⟨_, rfl⟩
  have hPP : ∀ s ms, PP s ms = [A, ST s ms, RT s ms] := fun s ms => by rw [hA]; rfl
  rw [hPP s ms]
  refine vc_cut (At [(0, .ptr 0 1 0 0), (3, .ptr 3 1 0 0)] [A, ST s ms, RT s ms, B]) (by simp -dsimp [At, hB, DOp.cells]) ?_
  try clear h
  rintro ⟨sl, hp, bs⟩ ⟨rfl, h⟩
  simp only [sls_cons, sls_one, sls_nil] at h
  refine vc_cut (fun st => nextS s ms o = (s, ms) ∧ st.hp = [A, ST s ms, RT s ms, B]) ?_ ?_
  · refine vc_cut (At [(0, .ptr 0 1 0 0), (3, .ptr 3 1 0 0), (16, V.i o.kind)] [A, ST s ms, RT s ms, B]) (by simp -dsimp [h, At, hB, DOp.cells]) ?_
    try clear h
    rintro ⟨sl, hp, bs⟩ ⟨rfl, h⟩
    simp only [sls_cons, sls_one, sls_nil] at h
    have k1 : o.kind ≠ 1 := by omega
    have k2 : o.kind ≠ 2 := by omega
    have k3 : o.kind ≠ 3 := by omega
    have e : nextS s ms o = (s, ms) := by simp [nextS, k1, k2, k3]
    replace h : gt sl 0 = .ptr 0 1 0 0 ∧ gt sl 16 = V.i 5 := ⟨h.1, by rw [h.2.2, k5]⟩
    simp -dsimp [h, hA]
    refine gcallm1 (copyT hs) 1 (by simp -dsimp [h, addAll]) (by simp -dsimp [h]) (by simp) (by simp) (by simp) (by simp -dsimp [h, idx]) (by simp) ?_
    simp -dsimp [h]
    refine gcallm2 (sameT hs hs) 4 1 (by simp) (by simp -dsimp [h, addAll]) (by simp) (by simp) (by simp) (by simp) (by simp -dsimp [h, idx, List.idxOf_cons]) (by simp) ?_
    simp -dsimp [h]
    refine gcallm2 (sameT hs hs) 1 4 (by simp) (by simp -dsimp [h, addAll]) (by simp) (by simp) (by simp) (by simp) (by simp -dsimp [h, idx, List.idxOf_cons]) (by simp) ?_
    simp -dsimp [h]
    refine gcalla1 (copyZ hs) 2 (by simp -dsimp [h, addAll]) (by simp) (by simp) (by simp) (by simp) (by simp -dsimp [h]) (by simp -dsimp [h, idx]) (by simp) ?_
    simp -dsimp [h]
    obtain ⟨A4, hA4⟩ : ∃ A, A = O.mem false [1, 2, 4] [[.ptr 4 1 0 0, .ptr 2 1 0 0]] := ⟨_, rfl⟩
    have rA4 : A4.refs = [1, 2, 4] := by rw [hA4]; rfl
    have rB : B.refs = [] := by rw [hB]; rfl
    refine vcF_upto 6 (by simp) s.length (fun i st => At [(0, .ptr 0 1 0 0), (9, .ptr 4 1 0 0), (10, .ptr 1 1 0 0), (11, .ptr 5 1 0 0), (12, V.i i)] [A4, ST (leastS s i) ms, RT s ms, B, ST s ms, RT (leastS s i) ms] st) (by simp -dsimp [At, h, hA4, leastS]) ?_
    clear h
    rintro i ⟨sl, hp, bs⟩ hi ⟨rfl, h⟩
    simp only [sls_cons, sls_one] at h
    unfold hallmarklaw11_pair_plays.b0
    have hi2 := leastS_two hs i
    by_cases hil : i < s.length
    · have hil2 : (i : Int) < ((leastS s i).length : Nat) := by rw [leastS_len]; omega
      have hw : IntKind.i64.wrap ((i : Int) + 1) = ((i + 1 : Nat) : Int) := by rw [wrap64] <;> omega
      simp -dsimp [h]
      refine gcallm1 (varsZ hi2) 5 (by simp -dsimp [h, addAll]) (by simp -dsimp [h]) (by simp) (by simp) (by simp) (by simp -dsimp [h, idx]) (by simp) ?_
      simp -dsimp [h, hil2]
      refine gcallm1 (loZ hi2 i) 5 (by simp -dsimp [h, addAll]) (by simp -dsimp [h]) (by simp) (by simp) (by simp) (by simp -dsimp [h, idx]) (by simp) ?_
      simp -dsimp [h]
      refine gcallm1 (cutT hi2 2 i (loB (leastS s i) i)) 1 (by simp -dsimp [h, addAll]) (by simp -dsimp [h]) (by simp) (by simp) (by simp) (by simp -dsimp [h, idx]) (by simp) ?_
      simp -dsimp [h]
      refine gcallm1 (cutZ hi2 2 i (loB (leastS s i) i)) 5 (by simp -dsimp [h, addAll]) (by simp -dsimp [h]) (by simp) (by simp) (by simp) (by simp -dsimp [h, idx]) (by simp) ?_
      simp -dsimp [h, At, hw, hil, leastS, rA4, rB]
    · have hil2 : ¬ (i : Int) < ((leastS s i).length : Nat) := by rw [leastS_len]; omega
      obtain rfl : i = s.length := by omega
      simp -dsimp [h]
      refine gcallm1 (varsZ hi2) 5 (by simp -dsimp [h, addAll]) (by simp -dsimp [h]) (by simp) (by simp) (by simp) (by simp -dsimp [h, idx]) (by simp) ?_
      simp -dsimp [h, hil2]
      obtain ⟨s', ms', b, two, dT, dZ⟩ := back0 hi2
      refine gcallm1 (dT) 1 (by simp -dsimp [h, addAll]) (by simp -dsimp [h]) (by simp) (by simp) (by simp) (by simp -dsimp [h, idx]) (by simp) ?_
      simp -dsimp [h]
      refine gcallm1 (dZ) 5 (by simp -dsimp [h, addAll]) (by simp -dsimp [h]) (by simp) (by simp) (by simp) (by simp -dsimp [h, idx]) (by simp) ?_
      simp -dsimp [h, hA4]
      refine gcallaP (p := 6) (a := 1) (r := 5) (s := s') (ms := ms') ⟨by simp, by simp, by simp, by simp [Pa], by simp, by simp⟩ (like_spec two) (by simp -dsimp [h, addAll]) (by simp) (by simp -dsimp [h, idx]) (by simp) ?_
      rintro r H ⟨rfl, rfl⟩
      rw [PPat.keep ⟨by simp, by simp, by simp, by simp [Pa], by simp, by simp⟩]
      simp -dsimp [h, hA4]
      refine gcalla2 (sameT hs two) 4 1 (by simp) (by simp -dsimp [h, addAll]) (by simp) (by simp) (by simp) (by simp) (by simp -dsimp [h]) (by simp -dsimp [h, idx, List.idxOf_cons]) (by simp) ?_
      simp -dsimp [h]
      refine gcalla2 (samesZ hs two) 2 5 (by simp) (by simp -dsimp [h, hallmarklaw11_pair_plays.rs, addAll]) (by simp) (by simp) (by simp) (by simp) (by simp -dsimp [h, hallmarklaw11_pair_plays.rs]) (by simp -dsimp [h, hallmarklaw11_pair_plays.rs, idx, List.idxOf_cons]) (by simp) ?_
      simp -dsimp [h, hallmarklaw11_pair_plays.rs]
      exact .inr k5
  · rintro ⟨sl, hp, bs⟩ ⟨e, rfl⟩
    simp -dsimp [hallmarklaw11_pair_plays.rs, e, hPP]
end Go.Abs.G

namespace Go.Abs.G
open Go.Proofs
set_option linter.unusedVariables false
set_option linter.unusedSimpArgs false

theorem plays_spec {s : List Dom} {ms : List (List Dom)} (hs : Two s ms) (hk : ms.length + 1 ≤ 1000000) (o : DOp) :
    DC Tryz.prog hallmarklaw11_pair_plays.id [.ptr 0 1 0 0, .agg o.cells] (PP s ms) (fun r H => r = .bool true ∧ (H = PP (nextS s ms o).1 (nextS s ms o).2 ∨ o.kind = 5 ∧ ∃ X, X.clo ∧ H = PX s ms X)) := by
  obtain ⟨t1, t2⟩ := nextS_two hs hk o
  have hn := hs.n
  let A1 := O.mem false [4, 2] [[.ptr 4 1 0 0, .ptr 2 1 0 0]]
  refine DC.pick (Q := fun r H => r = .bool true ∧ ((∃ B, H = PP (nextS s ms o).1 (nextS s ms o).2 ++ [B]) ∨ o.kind = 5 ∧ ∃ X B C D, X.clo ∧ H = [A1, X, RT s ms, B, ST s ms, C, D])) ?_ ?_
  rotate_left
  · rintro r H ⟨rfl, ⟨B, rfl⟩ | ⟨ho, X, B, C, D, hX, rfl⟩⟩
    · exact ⟨[0, 1, 2], ⟨by simp, by simp [PP], by simp [PP], by simp [PP]⟩, by intro i hi; match i, hi with | 0, _ => rfl | 1, _ => rfl | 2, _ => rfl, by simp, rfl, .inl (by simp [sub, PP]; decide)⟩
    · have hr := hX.refs; have hnr := hX.nres
      exact ⟨[0, 1, 2, 4], ⟨by simp, by simp, by simp [A1, hnr], by simp [A1, hr]⟩, by intro i hi; match i, hi with | 0, _ => rfl | 1, _ => rfl | 2, _ => rfl, by simp, rfl, .inr ⟨ho, X, hX, by simp [sub, PX, A1, hX.ren]; decide⟩⟩
  refine DC.post' (Q := fun r H => r = .bool true ∧ ((∃ B, H = PP (nextS s ms o).1 (nextS s ms o).2 ++ [B]) ∨ o.kind = 5 ∧ ∃ rf X B C D, X.clo ∧ H = [.mem false rf [[.ptr 4 1 0 0, .ptr 2 1 0 0]], X, RT s ms, B, ST s ms, C, D])) ?_ ?_
  rotate_left
  · rintro r H ⟨rfl, ⟨B, rfl⟩ | ⟨ho, rf, X, B, C, D, hX, rfl⟩⟩ w β F vs hk hrv
    · exact ⟨β, _, ⟨hk, .refl _, .refl _ _⟩, rfl, .inl ⟨B, rfl⟩⟩
    · obtain ⟨β', a⟩ := adv_refsM (id := 0) (refs' := [4, 2]) hk rfl (lo_arg (i := 1) hrv rfl rfl) (by simp)
      exact ⟨β', _, a, rfl, .inr ⟨ho, X, B, C, D, hX, rfl⟩⟩
  by_cases k4 : o.kind = 4
  · exact plays_b hs hk o k4
  · by_cases k5 : o.kind = 5
    · exact plays_c hs hk o k5
    · exact plays_a hs hk o (by simp [k4, k5])
end Go.Abs.G

namespace Go.Abs.G
open Go.Proofs
set_option linter.unusedVariables false
set_option linter.unusedSimpArgs false

def m0 : Model := ⟨[⟨⟨#[120]⟩, -2, 2⟩], [], false, []⟩
def d0 : Dom := ⟨-2, 5, 31, 0⟩
def d1 : Dom := ⟨-2, 5, 30, 0⟩
def d2 : Dom := ⟨-2, 5, 26, 0⟩
def d3 : Dom := ⟨-2, 5, 2, 0⟩
deriving instance DecidableEq for Dom
theorem m0_ok : okModel m0 := by
  refine ⟨⟨by decide, fun v hv => ?_⟩, ⟨by decide, fun c hc => by cases hc⟩, by decide, fun t ht => by cases ht⟩
  simp only [m0, List.mem_cons, List.not_mem_nil, or_false] at hv
  subst hv
  exact ⟨by decide, ⟨by decide, by decide⟩, ⟨by decide, by decide⟩⟩
theorem m0_doms : domsOf m0 = [d0] := by decide +kernel
theorem d_ok {d : Dom} (h : d.from' = -2 ∧ d.width = 5 ∧ d.a ≤ 31 ∧ d.b = 0) : d.ok := ⟨by omega, by omega, by omega, by omega⟩
theorem one_ok {d : Dom} (h : d.from' = -2 ∧ d.width = 5 ∧ d.a ≤ 31 ∧ d.b = 0) (ms : List (List Dom)) (hk : ms.length ≤ 1000000) : SOk [d] ms := ⟨by simp, hk, by simp; exact d_ok h⟩
theorem c1 : cutS [d0] 1 0 (-1) = ([d1], true, true) := by decide +kernel
theorem c2 : cutS [d1] 3 0 0 = ([d2], true, true) := by decide +kernel
theorem c3 : cutS [d2] 2 0 0 = ([d3], true, true) := by decide +kernel
theorem c4 : cutS [d3] 3 0 (-1) = ([d3], false, false) := by decide +kernel
theorem v2 : valsB [d2] 0 = [-1, 1, 2] := by decide +kernel
theorem v3 : valsB [d3] 0 = [-1] := by decide +kernel
theorem o2 : openB [d2] 1 = [0] := by decide +kernel

section
variable (ms : List (List Dom)) (hk : ms.length ≤ 1000000)
include hk
theorem cut1 : DC Tryz.prog dom_Store_Cut.id [.ptr 0 1 0 0, .agg [V.i 1, V.i 0, V.i (-1)]] [St1 [d0] (mT ms)] fun r H => r = .tup [.bool true, .bool true] ∧ H = [St1 [d1] (mT ms)] := by
  have := cutP (one_ok (d := d0) (by decide) ms hk) 1 0 (-1); rw [c1] at this; exact this
theorem cut2 : DC Tryz.prog dom_Store_Cut.id [.ptr 0 1 0 0, .agg [V.i 3, V.i 0, V.i 0]] [St1 [d1] (mT ms)] fun r H => r = .tup [.bool true, .bool true] ∧ H = [St1 [d2] (mT ms)] := by
  have := cutP (one_ok (d := d1) (by decide) ms hk) 3 0 0; rw [c2] at this; exact this
theorem cut3 : DC Tryz.prog dom_Store_Cut.id [.ptr 0 1 0 0, .agg [V.i 2, V.i 0, V.i 0]] [St1 [d2] (mT ms)] fun r H => r = .tup [.bool true, .bool true] ∧ H = [St1 [d3] (mT ms)] := by
  have := cutP (one_ok (d := d2) (by decide) ms hk) 2 0 0; rw [c3] at this; exact this
theorem cut4 : DC Tryz.prog dom_Store_Cut.id [.ptr 0 1 0 0, .agg [V.i 3, V.i 0, V.i (-1)]] [St1 [d3] (mT ms)] fun r H => r = .tup [.bool false, .bool false] ∧ H = [St1 [d3] (mT ms)] := by
  have := cutP (one_ok (d := d3) (by decide) ms hk) 3 0 (-1); rw [c4] at this; exact this
theorem val2 : DC Tryz.prog dom_Store_Values.id [.ptr 0 1 0 0, V.i 0] [St1 [d2] (mT ms)] fun r H => r = vInts [-1, 1, 2] ∧ H = [St1 [d2] (mT ms)] := by
  have := valuesP (one_ok (d := d2) (by decide) ms hk) 0; rw [v2] at this; exact this
theorem hi3 : DC Tryz.prog dom_Store_Hi.id [.ptr 0 1 0 0, V.i 0] [St1 [d3] (mT ms)] fun r H => r = V.i (-1) ∧ H = [St1 [d3] (mT ms)] := by
  have := hiP (one_ok (d := d3) (by decide) ms hk) 0 (by rw [v3]; simp); rw [v3] at this; exact this
theorem lo3 : DC Tryz.prog dom_Store_Lo.id [.ptr 0 1 0 0, V.i 0] [St1 [d3] (mT ms)] fun r H => r = V.i (-1) ∧ H = [St1 [d3] (mT ms)] := by
  have := loP (one_ok (d := d3) (by decide) ms hk) 0 (by rw [v3]; simp); rw [v3] at this; exact this
theorem has3 : DC Tryz.prog dom_Store_Has.id [.ptr 0 1 0 0, V.i 0, V.i 2] [St1 [d3] (mT ms)] fun r H => r = .bool false ∧ H = [St1 [d3] (mT ms)] := by
  have := hasP (one_ok (d := d3) (by decide) ms hk) 0 2 ⟨by decide, by decide⟩; rw [show hasB [d3] 0 2 = false from by decide +kernel] at this; exact this
theorem has2 : DC Tryz.prog dom_Store_Has.id [.ptr 0 1 0 0, V.i 0, V.i 2] [St1 [d2] (mT ms)] fun r H => r = .bool true ∧ H = [St1 [d2] (mT ms)] := by
  have := hasP (one_ok (d := d2) (by decide) ms hk) 0 2 ⟨by decide, by decide⟩; rw [show hasB [d2] 0 2 = true from by decide +kernel] at this; exact this
theorem size0 : DC Tryz.prog dom_Store_Size.id [.ptr 0 1 0 0, V.i 0] [St1 [d0] (mT ms)] fun r H => r = V.i 5 ∧ H = [St1 [d0] (mT ms)] := by
  have := sizeP (one_ok (d := d0) (by decide) ms hk) 0; rw [show (if isB [d0] 0 then ((([d0][(0 : Int).toNat]?).map Dom.size).getD 0 : Nat) else 0 : Int) = 5 from by decide +kernel] at this; exact this
theorem open2 : DC Tryz.prog dom_Store_Open.id [.ptr 0 1 0 0] [St1 [d2] (mT ms)] fun r H => r = vInts [0] ∧ H = [St1 [d2] (mT ms)] := by
  have := openP (one_ok (d := d2) (by decide) ms hk); rw [show openB [d2] [d2].length = [0] from o2] at this; exact this
end

theorem known_spec : Pf Tryz.prog hallmarklaw11_known.id [] (.bool true) := by
  refine DC.of hallmarklaw11_known.ok (by simp) ?_
  unfold hallmarklaw11_known.ir
  have hnew := newP1 m0 m0_ok
  rw [m0_doms] at hnew
  refine vc_cut (At [] []) (by simp -dsimp [At]) ?_
  try clear h
  rintro ⟨sl, hp, bs⟩ ⟨rfl, h⟩
  simp only [sls_cons, sls_one, sls_nil] at h
  refine vc_cut (At [(1, .ptr 1 1 0 0)] [.res, St1 [d0] (mT [])]) ?_ ?_
  · simp -dsimp [h]
    refine gcallo (zs := [.agg [vVars m0.vars, nilS, .bool false, nilS]]) (H0 := [St1 [d0] (mT [])]) (r0 := .ptr 0 1 0 0) (DC.sub (.cons (.agg (.cons (.refl _) (.cons (.nil 10) (.cons (.refl _) (.cons (.nil 2) .nil))))) .nil) hnew) (by simp -dsimp [vVars, m0, Var.cells]) (by simp -dsimp [vVars]) (by simp) ?_
    simp -dsimp [At]
  try clear h
  rintro ⟨sl, hp, bs⟩ ⟨rfl, h⟩
  simp only [sls_cons, sls_one, sls_nil] at h
  refine vc_cut (At [(1, .ptr 1 1 0 0)] [.res, St1 [d0] (mT [])]) ?_ ?_
  · simp -dsimp [h]
    refine gcallm1 (varsP (one_ok (d := d0) (by decide) [] (by simp))) 1 (by simp -dsimp [h, addAll]) (by simp -dsimp [h]) (by simp) (by simp) (by simp) (by simp -dsimp [h, idx]) (by simp) ?_
    simp -dsimp [h]
    refine gcallm1 (size0 [] (by simp)) 1 (by simp -dsimp [h, addAll]) (by simp -dsimp [h]) (by simp) (by simp) (by simp) (by simp -dsimp [h, idx]) (by simp) ?_
    simp -dsimp [h, At]
  try clear h
  rintro ⟨sl, hp, bs⟩ ⟨rfl, h⟩
  simp only [sls_cons, sls_one, sls_nil] at h
  refine vc_cut (At [(1, .ptr 1 1 0 0)] [.res, St1 [d1] (mT [])]) ?_ ?_
  · simp -dsimp [h]
    refine gcallm1 (cut1 [] (by simp)) 1 (by simp -dsimp [h, addAll]) (by simp -dsimp [h]) (by simp) (by simp) (by simp) (by simp -dsimp [h, idx]) (by simp) ?_
    simp -dsimp [h, At]
  try clear h
  rintro ⟨sl, hp, bs⟩ ⟨rfl, h⟩
  simp only [sls_cons, sls_one, sls_nil] at h
  refine vc_cut (At [(1, .ptr 1 1 0 0), (2, .bool true), (3, .bool true)] [.res, St1 [d2] (mT [])]) ?_ ?_
  · simp -dsimp [h]
    refine gcallm1 (cut2 [] (by simp)) 1 (by simp -dsimp [h, addAll]) (by simp -dsimp [h]) (by simp) (by simp) (by simp) (by simp -dsimp [h, idx]) (by simp) ?_
    simp -dsimp [h, At]
  try clear h
  rintro ⟨sl, hp, bs⟩ ⟨rfl, h⟩
  simp only [sls_cons, sls_one, sls_nil] at h
  refine vc_cut (At [(1, .ptr 1 1 0 0)] [.res, St1 [d2] (mT [[d2]]), .res]) ?_ ?_
  · simp -dsimp [h]
    refine gcallm1 (val2 [] (by simp)) 1 (by simp -dsimp [h, addAll]) (by simp -dsimp [h]) (by simp) (by simp) (by simp) (by simp -dsimp [h, idx]) (by simp) ?_
    simp -dsimp [h]
    refine gcall (sameInts_spec [-1, 1, 2] [-1, 1, 2] (by decide)) (by simp -dsimp [h, vInts]) (by simp -dsimp [h, vInts]) ?_
    simp -dsimp [h, vInts]
    refine gcallm1 (mark_packed (s := [d2]) (ms := []) (by simp) (by simp)) 1 (by simp -dsimp [h, addAll]) (by simp -dsimp [h]) (by simp) (by simp) (by simp) (by simp -dsimp [h, idx]) (by simp) ?_
    simp -dsimp [h, At]
  try clear h
  rintro ⟨sl, hp, bs⟩ ⟨rfl, h⟩
  simp only [sls_cons, sls_one, sls_nil] at h
  refine vc_cut (At [(1, .ptr 1 1 0 0)] [.res, St1 [d3] (mT [[d2]]), .res]) ?_ ?_
  · simp -dsimp [h]
    refine gcallm1 (cut3 [[d2]] (by simp)) 1 (by simp -dsimp [h, addAll]) (by simp -dsimp [h]) (by simp) (by simp) (by simp) (by simp -dsimp [h, idx]) (by simp) ?_
    simp -dsimp [h, At]
  try clear h
  rintro ⟨sl, hp, bs⟩ ⟨rfl, h⟩
  simp only [sls_cons, sls_one, sls_nil] at h
  refine vc_cut (At [(1, .ptr 1 1 0 0), (5, .bool false)] [.res, St1 [d3] (mT [[d2]]), .res]) ?_ ?_
  · simp -dsimp [h]
    refine gcallm1 (cut4 [[d2]] (by simp)) 1 (by simp -dsimp [h, addAll]) (by simp -dsimp [h]) (by simp) (by simp) (by simp) (by simp -dsimp [h, idx]) (by simp) ?_
    simp -dsimp [h, At]
  try clear h
  rintro ⟨sl, hp, bs⟩ ⟨rfl, h⟩
  simp only [sls_cons, sls_one, sls_nil] at h
  simp -dsimp [h]
  refine gcallm1 (hi3 [[d2]] (by simp)) 1 (by simp -dsimp [h, addAll]) (by simp -dsimp [h]) (by simp) (by simp) (by simp) (by simp -dsimp [h, idx]) (by simp) ?_
  simp -dsimp [h]
  refine gcallm1 (lo3 [[d2]] (by simp)) 1 (by simp -dsimp [h, addAll]) (by simp -dsimp [h]) (by simp) (by simp) (by simp) (by simp -dsimp [h, idx]) (by simp) ?_
  simp -dsimp [h]
  refine gcallm1 (has3 [[d2]] (by simp)) 1 (by simp -dsimp [h, addAll]) (by simp -dsimp [h]) (by simp) (by simp) (by simp) (by simp -dsimp [h, idx]) (by simp) ?_
  simp -dsimp [h]
  refine gcallm1 (mark_packed (s := [d3]) (ms := [[d2]]) (by simp) (by simp)) 1 (by simp -dsimp [h, addAll]) (by simp -dsimp [h]) (by simp) (by simp) (by simp) (by simp -dsimp [h, idx]) (by simp) ?_
  simp -dsimp [h]
  refine gcallm1 (back_no (s := [d3]) (ms := [[d2], [d3]]) (by simp) 2 (by simp)) 1 (by simp -dsimp [h, addAll]) (by simp -dsimp [h]) (by simp) (by simp) (by simp) (by simp -dsimp [h, idx]) (by simp) ?_
  simp -dsimp [h]
  refine gcallm1 (back_yes (s := [d3]) (ms := [[d2], [d3]]) (i := 0) (by simp) rfl) 1 (by simp -dsimp [h, addAll]) (by simp -dsimp [h]) (by simp) (by simp) (by simp) (by simp -dsimp [h, idx]) (by simp) ?_
  simp -dsimp [h]
  refine gcallm1 (has2 [] (by simp)) 1 (by simp -dsimp [h, addAll]) (by simp -dsimp [h]) (by simp) (by simp) (by simp) (by simp -dsimp [h, idx]) (by simp) ?_
  simp -dsimp [h]
  refine gcallm1 (open2 [] (by simp)) 1 (by simp -dsimp [h, addAll]) (by simp -dsimp [h]) (by simp) (by simp) (by simp) (by simp -dsimp [h, idx]) (by simp) ?_
  simp -dsimp [h]
  refine gcall (sameInts_spec [0] [0] (by decide)) (by simp -dsimp [h, vInts]) (by simp -dsimp [h, vInts]) ?_
  simp -dsimp [h, vInts]
  refine gcallm1 (copy_packed (s := [d2]) (ms := []) (by simp) (by simp) (by simp)) 1 (by simp -dsimp [h, addAll]) (by simp -dsimp [h]) (by simp) (by simp) (by simp) (by simp -dsimp [h, idx]) (by simp) ?_
  simp -dsimp [h]
  refine gcallm1 (sameP1 (one_ok (d := d2) (by decide) [] (by simp))) 1 (by simp -dsimp [h, addAll]) (by simp -dsimp [h]) (by simp) (by simp) (by simp) (by simp -dsimp [h, idx]) (by simp) ?_
  simp -dsimp [h, hallmarklaw11_known.rs]
end Go.Abs.G

namespace Go.Abs.G
open Go.Proofs
set_option linter.unusedVariables false
set_option linter.unusedSimpArgs false

def okCut (c : DCut) : Prop := I64 c.k ∧ I64 c.x ∧ I64 c.v
def zCuts (l : List DCut) : Prop := l.length ≤ maxLen ∧ l.length ≤ maxS ∧ ∀ c ∈ l, okCut c
structure CTypes (P : Program) (tInt tCut tCuts : TypeId) : Prop where
  bytes : 8 ≤ P.bytesOf tCut
  int : P.underlying tInt = some (.int .i64) ∧ P.cellsOf tInt = 1
  cut : ∃ fs, P.underlying tCut = some (.struct fs) ∧ P.cellsOf tCut = 3 ∧ fs.toList.map (fun f => (f.type, f.offset)) = [(tInt, 0), (tInt, 1), (tInt, 2)]
  cuts : P.underlying tCuts = some (.slice tCut) ∧ P.cellsOf tCuts = 1
theorem rdI {P : Program} {t : TypeId} (h : P.underlying t = some (.int .i64) ∧ P.cellsOf t = 1) : Rd P t 1 (fun n : Int => [V.i n]) I64 :=
  (Rd.int h.1 h.2).map fun n h => ⟨n, by
    have : (decide (IntKind.i64.min ≤ n) && decide (n ≤ IntKind.i64.max)) = true := h
    simp only [Bool.and_eq_true, decide_eq_true_eq] at this
    exact ⟨this.1, this.2⟩, rfl⟩
theorem rdCut {P : Program} {tInt tCut : TypeId} (hi : P.underlying tInt = some (.int .i64) ∧ P.cellsOf tInt = 1)
    (hc : ∃ fs, P.underlying tCut = some (.struct fs) ∧ P.cellsOf tCut = 3 ∧ fs.toList.map (fun f => (f.type, f.offset)) = [(tInt, 0), (tInt, 1), (tInt, 2)]) : Rd P tCut 3 DCut.cells okCut := by
  obtain ⟨fs, h1, h2, h3⟩ := hc
  refine (Rd.struct h1 h2 (RdF.of_map (fs := [fl tInt 0, fl tInt 1, fl tInt 2]) (.cons rfl (rdI hi) (.cons rfl (rdI hi) (.cons rfl (rdI hi) .nil))) h3)).map fun x h => ?_
  exact ⟨⟨x.1, x.2.1, x.2.2.1⟩, ⟨h.1, h.2.1, h.2.2.1⟩, rfl⟩
theorem CTypes.rdCuts {P : Program} {tInt tCut tCuts : TypeId} (M : CTypes P tInt tCut tCuts) : Rd P tCuts 1 (fun l : List DCut => [vCuts l]) zCuts :=
  (Rd.slice M.cuts.1 M.cuts.2 (by omega) (rdCut M.int M.cut)).map fun l h => ⟨l, ⟨h.1, maxS_of h.2.1 M.bytes, h.2.2⟩, rfl⟩
end Go.Abs.G

namespace Go.Abs.G
open Go.Proofs
set_option linter.unusedVariables false
set_option linter.unusedSimpArgs false

theorem PPat.trim {K : Heap} {p a r : Nat} {s : List Dom} {ms : List (List Dom)} (h : PPat K p a r s ms) {m : Nat} (hm : K.length ≤ m) : PPat ((K.take m).map (limO m)) p a r s ms := by
  have l1 := lt_of_get h.hp; have l2 := lt_of_get h.ha; have l3 := lt_of_get h.hr
  refine ⟨h.pa, h.pr, h.ar, ?_, ?_, ?_⟩
  · rw [List.getElem?_map, List.getElem?_take, if_pos (by omega), h.hp]
    have h1 : a < m := by omega
    have h2 : r < m := by omega
    simp [limO, Pa, h1, h2]
  · rw [List.getElem?_map, List.getElem?_take, if_pos (by omega), h.ha]; simp
  · rw [List.getElem?_map, List.getElem?_take, if_pos (by omega), h.hr]; simp
theorem PPat.more {K E : Heap} {p a r : Nat} {s : List Dom} {ms : List (List Dom)} (h : PPat K p a r s ms) : PPat (K ++ E) p a r s ms :=
  ⟨h.pa, h.pr, h.ar, by rw [List.getElem?_append_left (lt_of_get h.hp)]; exact h.hp, by rw [List.getElem?_append_left (lt_of_get h.ha)]; exact h.ha, by rw [List.getElem?_append_left (lt_of_get h.hr)]; exact h.hr⟩
end Go.Abs.G

namespace Go.Abs.G
open Go.Proofs
set_option linter.unusedVariables false
set_option linter.unusedSimpArgs false

theorem smallN_spec (m : Model) (hm : zModel m) : DP Tryz.prog hallmarklaw11_small.id [.agg m.cells, nilS] fun r => ∃ b, r = .bool b ∧ (b = true → Small m) :=
  (DP.sub (V.subL.cons (.refl _) (V.subL.cons (V.sub.nil 5) .nil)) (small_spec m [] hm)).mono fun r ⟨b, e, h⟩ => ⟨b, e, fun hb => (h hb).1⟩
def KK (B1 B2 : O) (s t : List Dom) : Heap := [B1, B2, Pa 3 4, ST s [], RT s [], Pa 6 7, ST t [], RT t []]
theorem KK1 (B1 B2 : O) (s t : List Dom) : PPat (KK B1 B2 s t) 2 3 4 s [] := ⟨by simp, by simp, by simp, rfl, rfl, rfl⟩
theorem KK2 (B1 B2 : O) (s t : List Dom) : PPat (KK B1 B2 s t) 5 6 7 t [] := ⟨by simp, by simp, by simp, rfl, rfl, rfl⟩
theorem two_law (m n : Model) (a b : List DCut) (hm : zModel m) (hn : zModel n) (hla : a.length ≤ maxLen) (hlb : b.length ≤ maxLen) : Pf Tryz.prog hallmarklaw11_DomTwo.id [.agg m.cells, .agg n.cells, vCuts a, vCuts b] (.bool true) := by
  refine DC.of hallmarklaw11_DomTwo.ok (by simp) ?_
  unfold hallmarklaw11_DomTwo.ir
  obtain ⟨B1, hB1⟩ : ∃ B, B = O.mem false [] [m.cells] := ⟨_, rfl⟩
  obtain ⟨B2, hB2⟩ : ∃ B, B = O.mem false [] [n.cells] := ⟨_, rfl⟩
  refine vc_cut (At [(2, vCuts a), (3, vCuts b), (4, .ptr 0 1 0 0), (5, .ptr 1 1 0 0)] [B1, B2]) (by simp -dsimp [At, hB1, hB2, Model.cells, vVars, vCons, vTerms]) ?_
  try clear h
  rintro ⟨sl, hp, bs⟩ ⟨rfl, h⟩
  simp only [sls_cons, sls_one, sls_nil] at h
  refine vc_cut (At [(2, vCuts a), (3, vCuts b), (4, .ptr 0 1 0 0), (5, .ptr 1 1 0 0)] [B1, B2]) ?_ ?_
  · simp -dsimp [h]
    refine gcall known_spec (by simp -dsimp [h]) (by simp -dsimp [h]) ?_
    simp -dsimp [h, At]
  try clear h
  rintro ⟨sl, hp, bs⟩ ⟨rfl, h⟩
  simp only [sls_cons, sls_one, sls_nil] at h
  refine vc_cut (fun st => Small m ∧ Small n ∧ a.length ≤ 300 ∧ b.length ≤ 300 ∧ At [(2, vCuts a), (3, vCuts b), (4, .ptr 0 1 0 0), (5, .ptr 1 1 0 0)] [B1, B2] st) ?_ ?_
  · simp -dsimp [h, hB1, hB2, Model.cells, vVars, vCons, vTerms]
    refine gcall_gen (smallN_spec m hm) (by simp -dsimp [h, Model.cells, vVars, vCons, vTerms]) (by simp [Model.cells, vVars, vCons, vTerms]) ?_
    rintro r ⟨b0, rfl, hs⟩
    cases b0
    · simp -dsimp [h, hallmarklaw11_DomTwo.rs]
    · simp -dsimp [h, hB1, hB2, Model.cells, vVars, vCons, vTerms]
      refine gcall_gen (smallN_spec n hn) (by simp -dsimp [h, Model.cells, vVars, vCons, vTerms]) (by simp [Model.cells, vVars, vCons, vTerms]) ?_
      rintro r ⟨b1, rfl, hs1⟩
      cases b1
      · simp -dsimp [h, hallmarklaw11_DomTwo.rs]
      · by_cases h1 : a.length ≤ 300
        · have h1' : ¬ (300 : Int) < a.length := by omega
          by_cases h2 : b.length ≤ 300
          · have h2' : ¬ (300 : Int) < b.length := by omega
            simp -dsimp [h, At, hB1, hB2, Model.cells, vVars, vCons, vTerms, vCuts, h1, h2, h1', h2']
            exact ⟨hs rfl, hs1 rfl⟩
          · have h2' : (300 : Int) < b.length := by omega
            simp -dsimp [h, hallmarklaw11_DomTwo.rs, vCuts, h1', h2']
        · have h1' : (300 : Int) < a.length := by omega
          simp -dsimp [h, hallmarklaw11_DomTwo.rs, vCuts, h1']
  rintro ⟨sl, hp, bs⟩ ⟨hS, hS2, hl1, hl2, rfl, h⟩; simp only [sls_cons, sls_one] at h
  refine vc_cut (At [(2, vCuts a), (3, vCuts b), (9, .ptr 2 1 0 0), (10, .ptr 5 1 0 0)] (KK B1 B2 (domsOf m) (domsOf n))) ?_ ?_
  · simp -dsimp [h, hB1, hB2, Model.cells, vVars, vCons, vTerms]
    refine gcallo (begin_spec m hS hm) (by simp -dsimp [h, Model.cells, vVars, vCons, vTerms]) (by simp [Model.cells, vVars, vCons, vTerms]) (by simp) ?_
    simp -dsimp [h, PP]
    refine gcallo (begin_spec n hS2 hn) (by simp -dsimp [h, Model.cells, vVars, vCons, vTerms]) (by simp [Model.cells, vVars, vCons, vTerms]) (by simp) ?_
    simp -dsimp [h, At, KK, PP, Pa, hB1, hB2, Model.cells, vVars, vCons, vTerms]
  try clear h
  rintro ⟨sl, hp, bs⟩ ⟨rfl, h⟩
  simp only [sls_cons, sls_one, sls_nil] at h
  refine vc_cut (At [(2, vCuts a), (3, vCuts b), (9, .ptr 2 1 0 0), (10, .ptr 5 1 0 0)] (KK B1 B2 (domsOf m) (domsOf n))) (by simp -dsimp [h, At, KK]) ?_
  try clear h
  rintro ⟨sl, hp, bs⟩ ⟨rfl, h⟩
  simp only [sls_cons, sls_one, sls_nil] at h
  have hK : ∀ s t, ((KK B1 B2 s t).take 8).map (limO 8) = KK B1 B2 s t := fun s t => by simp [KK, hB1, hB2, limO, Pa]
  have hK' : ∀ s t, (KK B1 B2 s t).length = 8 := fun s t => rfl
  refine vc_cut (fun st => ∃ s, Two s [] ∧ At [(3, vCuts b), (9, .ptr 2 1 0 0), (10, .ptr 5 1 0 0)] (KK B1 B2 s (domsOf n)) st) ?_ ?_
  · refine vc_cut (At [(2, vCuts a), (3, vCuts b), (9, .ptr 2 1 0 0), (10, .ptr 5 1 0 0), (11, V.i 0)] (KK B1 B2 (domsOf m) (domsOf n))) (by simp -dsimp [h, At]) ?_
    try clear h
    rintro ⟨sl, hp, bs⟩ ⟨rfl, h⟩
    simp only [sls_cons, sls_one, sls_nil] at h
    refine vc_block_of (vc_upto 8 (by simp [hK']) a.length (fun i st => ∃ s, Two s [] ∧ At [(2, vCuts a), (3, vCuts b), (9, .ptr 2 1 0 0), (10, .ptr 5 1 0 0), (11, V.i i)] (KK B1 B2 s (domsOf n)) st) ⟨_, Two.new m, rfl, by simpa using h⟩ ?_)
    clear h
    rintro i ⟨sl, hp, bs⟩ hi ⟨s, hs, rfl, h⟩
    simp only [sls_cons, sls_one] at h
    unfold hallmarklaw11_DomTwo.b0
    by_cases hil : i < a.length
    · have hw : IntKind.i64.wrap ((i : Int) + 1) = ((i + 1 : Nat) : Int) := by rw [wrap64] <;> omega
      obtain ⟨c, hc⟩ : ∃ c, c = a[i] := ⟨_, rfl⟩
      obtain ⟨KH, hKH⟩ : ∃ KH : Unit → Heap, KH () = KK B1 B2 s (domsOf n) := ⟨fun _ => _, rfl⟩
      have P1 := KK1 B1 B2 s (domsOf n)
      have hput := P1.merge (cutS s c.k c.x c.v).1 []
      rw [← hKH] at P1 hput
      rw [← hKH]
      simp -dsimp [h, hil, vCuts, ← hc, DCut.cells]
      refine gcallP (p := 2) (a := 3) (r := 4) (s := s) (ms := []) P1 (plays_spec hs (by simp) ⟨1, c.k, c.x, c.v, 0⟩) (by simp -dsimp [h, addAll]) (by simp -dsimp [h, idx, DOp.cells]) (by simp) ?_
      rintro r0 H ⟨rfl, rfl | ⟨hbad, _⟩⟩
      · have e : nextS s [] ⟨1, c.k, c.x, c.v, 0⟩ = ((cutS s c.k c.x c.v).1, []) := by simp [nextS]
        rw [e]
        simp only []
        rw [hput, hKH]
        have e2 : ((KK B1 B2 s (domsOf n)).set 3 (ST (cutS s c.k c.x c.v).1 [])).set 4 (RT (cutS s c.k c.x c.v).1 []) = KK B1 B2 (cutS s c.k c.x c.v).1 (domsOf n) := rfl
        rw [e2]
        simp -dsimp [h, At, hil, hw, hK]
        exact ⟨_, hs.cut _ _ _, rfl, rfl, rfl⟩
      · exact absurd hbad (by show ¬ (1 : Int) = 5; decide)
    · simp -dsimp [h, At, hil, vCuts]
      exact ⟨s, hs, rfl⟩
  clear h
  rintro ⟨sl, hp, bs⟩ ⟨s, hs, rfl, h⟩
  simp only [sls_cons, sls_one] at h
  refine vc_cut (fun st => ∃ s t, Two s [] ∧ Two t [] ∧ At [(9, .ptr 2 1 0 0), (10, .ptr 5 1 0 0)] (KK B1 B2 s t) st) ?_ ?_
  · refine vc_cut (At [(3, vCuts b), (9, .ptr 2 1 0 0), (10, .ptr 5 1 0 0), (12, V.i 0)] (KK B1 B2 s (domsOf n))) (by simp -dsimp [h, At]) ?_
    try clear h
    rintro ⟨sl, hp, bs⟩ ⟨rfl, h⟩
    simp only [sls_cons, sls_one, sls_nil] at h
    refine vc_block_of (vc_upto 8 (by simp [hK']) b.length (fun i st => ∃ t, Two t [] ∧ At [(3, vCuts b), (9, .ptr 2 1 0 0), (10, .ptr 5 1 0 0), (12, V.i i)] (KK B1 B2 s t) st) ⟨_, Two.new n, rfl, by simpa using h⟩ ?_)
    clear h
    rintro i ⟨sl, hp, bs⟩ hi ⟨t, ht, rfl, h⟩
    simp only [sls_cons, sls_one] at h
    unfold hallmarklaw11_DomTwo.b1
    by_cases hil : i < b.length
    · have hw : IntKind.i64.wrap ((i : Int) + 1) = ((i + 1 : Nat) : Int) := by rw [wrap64] <;> omega
      obtain ⟨c, hc⟩ : ∃ c, c = b[i] := ⟨_, rfl⟩
      obtain ⟨KH, hKH⟩ : ∃ KH : Unit → Heap, KH () = KK B1 B2 s t := ⟨fun _ => _, rfl⟩
      have P1 := KK2 B1 B2 s t
      have hput := P1.merge (cutS t c.k c.x c.v).1 []
      rw [← hKH] at P1 hput
      rw [← hKH]
      simp -dsimp [h, hil, vCuts, ← hc, DCut.cells]
      refine gcallP (p := 5) (a := 6) (r := 7) (s := t) (ms := []) P1 (plays_spec ht (by simp) ⟨1, c.k, c.x, c.v, 0⟩) (by simp -dsimp [h, addAll]) (by simp -dsimp [h, idx, DOp.cells]) (by simp) ?_
      rintro r0 H ⟨rfl, rfl | ⟨hbad, _⟩⟩
      · have e : nextS t [] ⟨1, c.k, c.x, c.v, 0⟩ = ((cutS t c.k c.x c.v).1, []) := by simp [nextS]
        rw [e]
        simp only []
        rw [hput, hKH]
        have e2 : ((KK B1 B2 s t).set 6 (ST (cutS t c.k c.x c.v).1 [])).set 7 (RT (cutS t c.k c.x c.v).1 []) = KK B1 B2 s (cutS t c.k c.x c.v).1 := rfl
        rw [e2]
        simp -dsimp [h, At, hil, hw, hK]
        exact ⟨_, ht.cut _ _ _, rfl, rfl⟩
      · exact absurd hbad (by show ¬ (1 : Int) = 5; decide)
    · simp -dsimp [h, At, hil, vCuts]
      exact ⟨s, hs, t, ht, rfl⟩
  clear h
  rintro ⟨sl, hp, bs⟩ ⟨s, t, hs, ht, rfl, h⟩
  simp only [sls_cons, sls_one] at h
  have hsym : decide (refD t = refD s) = decide (refD s = refD t) := by rw [decide_eq_decide]; exact ⟨Eq.symm, Eq.symm⟩
  simp -dsimp [h, KK, Pa]
  refine gcalla2 (samesZ hs ht) 4 7 (by simp) (by simp -dsimp [h, addAll]) (by simp) (by simp) (by simp) (by simp) (by simp -dsimp [h]) (by simp -dsimp [h, idx, List.idxOf_cons]) (by simp) ?_
  simp -dsimp [h]
  refine gcalla2 (sameT hs ht) 3 6 (by simp) (by simp -dsimp [h, addAll]) (by simp) (by simp) (by simp) (by simp) (by simp -dsimp [h]) (by simp -dsimp [h, idx, List.idxOf_cons]) (by simp) ?_
  simp -dsimp [h]
  refine gcalla2 (sameT ht hs) 6 3 (by simp) (by simp -dsimp [h, addAll]) (by simp) (by simp) (by simp) (by simp) (by simp -dsimp [h]) (by simp -dsimp [h, idx, List.idxOf_cons]) (by simp) ?_
  simp -dsimp [h]
  rw [hsym]
  simp -dsimp [h]
  refine gcalla1 (same1T hs) 3 (by simp -dsimp [h, hallmarklaw11_DomTwo.rs, addAll]) (by simp) (by simp) (by simp) (by simp) (by simp -dsimp [h, hallmarklaw11_DomTwo.rs]) (by simp -dsimp [h, hallmarklaw11_DomTwo.rs, idx]) (by simp) ?_
  simp -dsimp [h, hallmarklaw11_DomTwo.rs]
end Go.Abs.G

namespace Go.Abs.G
open Go.Proofs
theorem two_law2 (m n : Model) (a b : List DCut) (hm : zModel m) (hn : zModel n) (ha : zCuts a) (hb : zCuts b) : Pf Tryz.prog hallmarklaw11_DomTwo.id [.agg m.cells, .agg n.cells, vCuts a, vCuts b] (.bool true) := two_law m n a b hm hn ha.1 hb.1
end Go.Abs.G
