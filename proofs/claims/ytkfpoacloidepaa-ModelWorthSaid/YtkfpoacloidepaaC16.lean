import Derived.Test.YtkfpoacloidepaaC16a
set_option linter.all false
namespace Go.Abs.G
open Go.Proofs
set_option linter.unusedVariables false
set_option linter.unusedSimpArgs false

set_option maxHeartbeats 4000000 in
theorem known_spec : Pf Try.prog hallmarklaw4_known.id [] (.bool true) := by
  refine DC.of hallmarklaw4_known.ok (by simp) ?_
  unfold hallmarklaw4_known.ir
  obtain ⟨v1, v2, v3, v4, v5, v6, v7, v8, v9, v10, v11, v12, v13, v14⟩ := known_values
  obtain ⟨w1, w2, w3, w4, w5, w6, w7, w8⟩ := known_two
  obtain ⟨o1, o2, o3, o4, o5, o6⟩ := known_ok
  have c1 := check_spec twoM known_two_ok
  rw [w1] at c1
  have c2 := product_spec twoM 16 known_two_ok (by constructor <;> decide)
  rw [w2] at c2
  have c3 := product_spec twoM 15 known_two_ok (by constructor <;> decide)
  rw [w3] at c3
  have c4 := floor_spec twoM known_two_ok
  rw [w4] at c4
  have c5 := ceil_spec twoM known_two_ok
  rw [w5] at c5
  have c6 := worth_spec twoM [1, 2] known_two_ok (by decide)
  rw [w6] at c6
  have c7 := solution_spec twoM [1, 2] known_two_ok (by decide) (by simp [twoM])
  rw [w7] at c7
  obtain ⟨k1, k2, k3, k4, k5, k6⟩ := known_kinds
  refine vc_cut (fun s => s.hp = []) (by simp) ?_
  rintro ⟨sl, hp, bs⟩ rfl
  refine vc_cut (fun s => gt s.sl 1 = .ptr 1 1 0 0 ∧ s.hp = kH.take 2) (by simp [kH]) ?_
  rintro ⟨sl, hp, bs⟩ ⟨h1, rfl⟩
  refine vc_cut (fun s => gt s.sl 1 = .ptr 1 1 0 0 ∧ gt s.sl 2 = .ptr 2 1 0 0 ∧ s.hp = kH.take 3) (by simp [h1, kH]) ?_
  rintro ⟨sl, hp, bs⟩ ⟨h1, h2, rfl⟩
  refine vc_cut (fun s => gt s.sl 1 = .ptr 1 1 0 0 ∧ gt s.sl 2 = .ptr 2 1 0 0 ∧ gt s.sl 3 = .ptr 4 1 0 0 ∧ s.hp = kH.take 5) (by simp [h1, h2, kH]) ?_
  rintro ⟨sl, hp, bs⟩ ⟨h1, h2, h3, rfl⟩
  refine vc_cut (fun s => gt s.sl 1 = .ptr 1 1 0 0 ∧ gt s.sl 2 = .ptr 2 1 0 0 ∧ gt s.sl 3 = .ptr 4 1 0 0 ∧ gt s.sl 4 = .ptr 6 1 0 0 ∧ s.hp = kH) (by simp [h1, h2, h3, kH]) ?_
  rintro ⟨sl, hp, bs⟩ ⟨h1, h2, h3, h4, rfl⟩
  refine vc_cut (fun s => gt s.sl 1 = .ptr 1 1 0 0 ∧ gt s.sl 2 = .ptr 2 1 0 0 ∧ gt s.sl 3 = .ptr 4 1 0 0 ∧ gt s.sl 4 = .ptr 6 1 0 0 ∧ gt s.sl 5 = .bool true ∧ ∃ os, os.length = 5 ∧ s.hp = kH ++ os) ?_ ?_
  · simp -dsimp [↓callb_fn, h1, h2, h3, h4, kH]
    refine holds_use (c := linC) (values := [2, 0]) ?_ o1 (by decide) k1 v1 ?_
    · repeat' (first | exact V.subL.nil | apply V.subL.cons | exact V.sub.refl _ | exact V.sub.nil _ | apply V.sub.agg)
    simp -dsimp [↓callb_fn, h1, h2, h3, h4, kH]
    refine holds_use (c := linC) (values := [3, 2]) ?_ o1 (by decide) k1 v2 ?_
    · repeat' (first | exact V.subL.nil | apply V.subL.cons | exact V.sub.refl _ | exact V.sub.nil _ | apply V.sub.agg)
    simp -dsimp [↓callb_fn, h1, h2, h3, h4, kH]
    refine holds_use (c := neC) (values := [0, 1]) ?_ o2 (by decide) k2 v3 ?_
    · repeat' (first | exact V.subL.nil | apply V.subL.cons | exact V.sub.refl _ | exact V.sub.nil _ | apply V.sub.agg)
    simp -dsimp [↓callb_fn, h1, h2, h3, h4, kH]
    refine holds_use (c := elC) (values := [1, 0]) ?_ o3 (by decide) k3 v4 ?_
    · repeat' (first | exact V.subL.nil | apply V.subL.cons | exact V.sub.refl _ | exact V.sub.nil _ | apply V.sub.agg)
    simp -dsimp [↓callb_fn, h1, h2, h3, h4, kH]
    refine holds_use (c := reC) (values := [1, 0]) ?_ o4 (by decide) k4 v5 ?_
    · repeat' (first | exact V.subL.nil | apply V.subL.cons | exact V.sub.refl _ | exact V.sub.nil _ | apply V.sub.agg)
    simp -dsimp [↓callb_fn, h1, h2, h3, h4, kH]
  rintro s ⟨h1, h2, h3, h4, h5, os, hos, he⟩
  refine vc_cut (fun s => gt s.sl 5 = .bool true ∧ gt s.sl 6 = .bool false ∧ s.hp.length = 17) ?_ ?_
  · simp -dsimp [↓callb_fn, h1, h2, h3, h4, h5, he, hos, kH]
    refine holds_use (c := linC) (values := [3, 1]) ?_ o1 (by decide) k1 v6 ?_
    · repeat' (first | exact V.subL.nil | apply V.subL.cons | exact V.sub.refl _ | exact V.sub.nil _ | apply V.sub.agg)
    simp -dsimp [↓callb_fn, h1, h2, h3, h4, h5, he, hos, kH]
    refine holds_use (c := neC) (values := [1, 0]) ?_ o2 (by decide) k2 v7 ?_
    · repeat' (first | exact V.subL.nil | apply V.subL.cons | exact V.sub.refl _ | exact V.sub.nil _ | apply V.sub.agg)
    simp -dsimp [↓callb_fn, h1, h2, h3, h4, h5, he, hos, kH]
    refine holds_use (c := elC) (values := [2, 2]) ?_ o3 (by decide) k3 v8 ?_
    · repeat' (first | exact V.subL.nil | apply V.subL.cons | exact V.sub.refl _ | exact V.sub.nil _ | apply V.sub.agg)
    simp -dsimp [↓callb_fn, h1, h2, h3, h4, h5, he, hos, kH]
    refine holds_use (c := reC) (values := [0, 1]) ?_ o4 (by decide) k4 v9 ?_
    · repeat' (first | exact V.subL.nil | apply V.subL.cons | exact V.sub.refl _ | exact V.sub.nil _ | apply V.sub.agg)
    simp -dsimp [↓callb_fn, h1, h2, h3, h4, h5, he, hos, kH]
    refine holds_use (c := reC) (values := [2, 2]) ?_ o4 (by decide) k4 v10 ?_
    · repeat' (first | exact V.subL.nil | apply V.subL.cons | exact V.sub.refl _ | exact V.sub.nil _ | apply V.sub.agg)
    simp -dsimp [↓callb_fn, h1, h2, h3, h4, h5, he, hos, kH]
  clear h1 h2 h3 h4 h5 he os hos
  rintro s ⟨h5, h6, hL⟩
  refine vc_cut (fun s' => gt s'.sl 5 = .bool true ∧ gt s'.sl 6 = .bool false ∧ gt s'.sl 7 = .ptr 21 1 0 0 ∧ ∃ a b r, s'.hp = s.hp ++ [.mem false [] [[V.i 0], [V.i 1]], a, b, .mem false [] [[vInts [0, 1]], [vInts [3, -1]]], .mem false r [[V.i 8, V.i 0, nl, V.i 0, V.i 0, V.i 0, V.i 0, .own 17 1 0 2 2, nl, .own 20 1 0 2 2]]]) ?_ ?_
  · simp -dsimp [List.getElem?_append, List.set_append, hL, h5, h6, vInts]
  rintro s1 ⟨h5, h6, h7, a, b, r, he⟩
  refine vc_cut (fun s' => gt s'.sl 5 = .bool true ∧ gt s'.sl 6 = .bool false ∧ gt s'.sl 7 = .ptr 21 1 0 0 ∧ gt s'.sl 8 = .ptr 23 1 0 0 ∧ ∃ r2, s'.hp = s.hp ++ [.mem false [] [[V.i 0], [V.i 1]], a, b, .mem false [] [[vInts [0, 1]], [vInts [3, -1]]], .mem false r [[V.i 8, V.i 0, nl, V.i 0, V.i 0, V.i 0, V.i 0, .own 17 1 0 2 2, nl, .own 20 1 0 2 2]],
      .mem false [] [[V.i 0], [V.i 1], [V.i 1]], .mem false r2 [[V.i 9, V.i 2, nl, V.i 2, V.i 2, V.i 0, V.i 0, .own 22 1 0 3 3, nl, nl]]]) ?_ ?_
  · simp -dsimp [List.getElem?_append, List.set_append, hL, h5, h6, h7, he, vInts]
  rintro s2 ⟨h5, h6, h7, h8, r2, he2⟩
  refine vc_cut (fun s' => gt s'.sl 5 = .bool true ∧ gt s'.sl 6 = .bool false ∧ s'.hp.length = 28) ?_ ?_
  · simp -dsimp [↓callb_fn, List.getElem?_append, List.set_append, hL, h5, h6, h7, h8, he2, vInts]
    refine holds_use (c := rowC) (values := [3, -1]) ?_ o5 (by decide) k5 v11 ?_
    · repeat' (first | exact V.subL.nil | apply V.subL.cons | exact V.sub.refl _ | exact V.sub.nil _ | apply V.sub.agg)
    simp -dsimp [↓callb_fn, List.getElem?_append, List.set_append, hL, h5, h6, h7, h8, he2, vInts]
    refine holds_use (c := rowC) (values := [0, -1]) ?_ o5 (by decide) k5 v12 ?_
    · repeat' (first | exact V.subL.nil | apply V.subL.cons | exact V.sub.refl _ | exact V.sub.nil _ | apply V.sub.agg)
    simp -dsimp [↓callb_fn, List.getElem?_append, List.set_append, hL, h5, h6, h7, h8, he2, vInts]
    refine holds_use (c := tiC) (values := [0, 2]) ?_ o6 (by decide) k6 v13 ?_
    · repeat' (first | exact V.subL.nil | apply V.subL.cons | exact V.sub.refl _ | exact V.sub.nil _ | apply V.sub.agg)
    simp -dsimp [↓callb_fn, List.getElem?_append, List.set_append, hL, h5, h6, h7, h8, he2, vInts]
    refine holds_use (c := tiC) (values := [2, 2]) ?_ o6 (by decide) k6 v14 ?_
    · repeat' (first | exact V.subL.nil | apply V.subL.cons | exact V.sub.refl _ | exact V.sub.nil _ | apply V.sub.agg)
    simp -dsimp [↓callb_fn, List.getElem?_append, List.set_append, hL, h5, h6, h7, h8, he2, vInts]
  rintro s ⟨q5, q6, hL⟩
  refine vc_cut (fun s' => gt s'.sl 5 = .bool true ∧ gt s'.sl 6 = .bool false ∧ gt s'.sl 9 = .ptr 28 1 0 0 ∧ ∃ R O, s'.hp = s.hp ++ [.mem false R [[.own 30 3 0 2 2, nl, .bool true, .own 31 2 0 2 2]], O, .mem false [] (twoM.vars.map Var.cells), .mem false [] (twoM.goal.map Term.cells)]) ?_ ?_
  · simp -dsimp [↓callo_fn, List.getElem?_append, List.set_append, hL, q5, q6]
    refine DC.mono two_spec fun r H ⟨hr, o, hH⟩ => ?_
    subst hr hH
    simp -dsimp [List.getElem?_append, List.set_append, hL, q5, q6, twoM, Var.cells, Term.cells]
  rintro s3 ⟨q5, q6, q9, R, O, he⟩
  refine vc_cut (fun s' => gt s'.sl 5 = .bool true ∧ gt s'.sl 6 = .bool false ∧ gt s'.sl 9 = .ptr 28 1 0 0 ∧ gt s'.sl 10 = V.i 0 ∧ gt s'.sl 11 = V.i 0 ∧ ∃ R O, s'.hp = s.hp ++ [.mem false R [[.own 30 3 0 2 2, nl, .bool true, .own 31 2 0 2 2]], O, .mem false [] (twoM.vars.map Var.cells), .mem false [] (twoM.goal.map Term.cells)]) ?_ ?_
  · simp -dsimp [↓callb_fn, List.getElem?_append, List.set_append, hL, q5, q6, q9, he, twoM, Var.cells, Term.cells]
    refine sub_use ?_ c1 ?_
    · repeat' (first | exact V.subL.nil | apply V.subL.cons | exact V.sub.refl _ | exact V.sub.nil _ | apply V.sub.agg)
    simp -dsimp [q5, q6, q9, he, twoM, Var.cells, Term.cells]
  rintro s4 ⟨q5, q6, q9, q10, q11, R, O, he⟩
  refine vc_cut (fun s' => gt s'.sl 5 = .bool true ∧ gt s'.sl 6 = .bool false ∧ gt s'.sl 9 = .ptr 28 1 0 0 ∧ gt s'.sl 10 = V.i 0 ∧ gt s'.sl 11 = V.i 0 ∧ gt s'.sl 12 = V.i 16 ∧ gt s'.sl 13 = .bool true ∧ ∃ R O, s'.hp = s.hp ++ [.mem false R [[.own 30 3 0 2 2, nl, .bool true, .own 31 2 0 2 2]], O, .mem false [] (twoM.vars.map Var.cells), .mem false [] (twoM.goal.map Term.cells)]) ?_ ?_
  · simp -dsimp [↓callb_fn, List.getElem?_append, List.set_append, hL, q5, q6, q9, he, twoM, Var.cells, Term.cells]
    refine sub_use ?_ c2 ?_
    · repeat' (first | exact V.subL.nil | apply V.subL.cons | exact V.sub.refl _ | exact V.sub.nil _ | apply V.sub.agg)
    simp -dsimp [q5, q6, q9, q10, q11, he, twoM, Var.cells, Term.cells]
  rintro s5 ⟨q5, q6, q9, q10, q11, q12, q13, R, O, he⟩
  refine vc_cut (fun s' => gt s'.sl 5 = .bool true ∧ gt s'.sl 6 = .bool false ∧ gt s'.sl 9 = .ptr 28 1 0 0 ∧ gt s'.sl 10 = V.i 0 ∧ gt s'.sl 11 = V.i 0 ∧ gt s'.sl 12 = V.i 16 ∧ gt s'.sl 13 = .bool true ∧ gt s'.sl 15 = .bool false ∧ ∃ R O, s'.hp = s.hp ++ [.mem false R [[.own 30 3 0 2 2, nl, .bool true, .own 31 2 0 2 2]], O, .mem false [] (twoM.vars.map Var.cells), .mem false [] (twoM.goal.map Term.cells)]) ?_ ?_
  · simp -dsimp [↓callb_fn, List.getElem?_append, List.set_append, hL, q5, q6, q9, he, twoM, Var.cells, Term.cells]
    refine sub_use ?_ c3 ?_
    · repeat' (first | exact V.subL.nil | apply V.subL.cons | exact V.sub.refl _ | exact V.sub.nil _ | apply V.sub.agg)
    simp -dsimp [q5, q6, q9, q10, q11, q12, q13, he, twoM, Var.cells, Term.cells]
  rintro s6 ⟨q5, q6, q9, q10, q11, q12, q13, q15, R, O, he⟩
  refine vc_cut (fun s' => gt s'.sl 9 = .ptr 28 1 0 0 ∧ ∃ R O os, s'.hp = s.hp ++ [.mem false R [[.own 30 3 0 2 2, nl, .bool true, .own 31 2 0 2 2]], O, .mem false [] (twoM.vars.map Var.cells), .mem false [] (twoM.goal.map Term.cells)] ++ os) ?_ ?_
  · simp -dsimp [↓callb_fn, List.getElem?_append, List.set_append, hL, q5, q6, q9, q10, q11, q12, q13, q15, he, twoM, Var.cells, Term.cells]
    refine sub_use ?_ c4 ?_
    · repeat' (first | exact V.subL.nil | apply V.subL.cons | exact V.sub.refl _ | exact V.sub.nil _ | apply V.sub.agg)
    simp -dsimp [↓callb_fn, List.getElem?_append, List.set_append, hL, q5, q6, q9, q10, q11, q12, q13, q15, he, twoM, Var.cells, Term.cells]
    refine sub_use ?_ c5 ?_
    · repeat' (first | exact V.subL.nil | apply V.subL.cons | exact V.sub.refl _ | exact V.sub.nil _ | apply V.sub.agg)
    simp -dsimp [↓callb_fn, List.getElem?_append, List.set_append, hL, q5, q6, q9, q10, q11, q12, q13, q15, he, twoM, Var.cells, Term.cells]
    refine sub_use ?_ c6 ?_
    · repeat' (first | exact V.subL.nil | apply V.subL.cons | exact V.sub.refl _ | exact V.sub.nil _ | apply V.sub.agg)
    simp -dsimp [↓callb_fn, List.getElem?_append, List.set_append, hL, q5, q6, q9, q10, q11, q12, q13, q15, he, twoM, Var.cells, Term.cells]
    refine sub_use ?_ c7 ?_
    · repeat' (first | exact V.subL.nil | apply V.subL.cons | exact V.sub.refl _ | exact V.sub.nil _ | apply V.sub.agg)
    simp -dsimp [↓callb_fn, List.getElem?_append, List.set_append, hL, q5, q6, q9, q10, q11, q12, q13, q15, he, twoM, Var.cells, Term.cells]
  rintro s7 ⟨q9, R, O, os, he⟩
  exact known_last s s7 hL q9 ⟨R, O, os, he⟩
end Go.Abs.G
