import Derived.Test.YtkfpoacloidepaaC15
import Derived.Test.YtkfpoacloidepaaAbsZc
set_option linter.all false
namespace Go.Abs.G
open Go.Proofs
set_option linter.unusedVariables false
set_option linter.unusedSimpArgs false

theorem known_kinds : KindOk linC ∧ KindOk neC ∧ KindOk elC ∧ KindOk reC ∧ KindOk rowC ∧ KindOk tiC := by
  refine ⟨?_, ?_, ?_, ?_, ?_, ?_⟩ <;> simp [KindOk, linC, neC, elC, reC, rowC, tiC]

theorem sub_use {id : FuncId} {xs ys : List V} {r : V} {Q : V → Prop} (hs : V.subL xs ys) (h : Pf Try.prog id ys r) (hq : Q r) : DP Try.prog id xs Q := DP.sub hs (h.use hq)

theorem known_two_ok : okModel twoM := by
  simp [okModel, okVar, okTerms, okTerm, I64, twoM, maxLen]
  exact ⟨by decide, by decide⟩

abbrev nl : V := .a (.slice none 0 0)
abbrev pair (a b : Int) : List V := [V.i a, V.i b]
/-- The first four constraints of the chapter, as they lie. -/
def kH : Heap := [.mem false [] [pair 2 0, pair (-1) 1], .mem false [0] [[V.i 1, V.i 1, .own 0 2 0 2 2, V.i 4, V.i 0, V.i 0, V.i 0, nl, nl, nl]],
  .mem false [] [[V.i 2, V.i 0, nl, V.i 1, V.i 0, V.i 0, V.i 1, nl, nl, nl]],
  .mem false [] [[V.i 2], [V.i 0]], .mem false [3] [[V.i 4, V.i 0, nl, V.i 0, V.i 0, V.i 0, V.i 1, nl, .own 3 1 0 2 2, nl]],
  .mem false [] [pair 1 0, pair 1 1], .mem false [5] [[V.i 7, V.i 0, .own 5 2 0 2 2, V.i 1, V.i 0, V.i 0, V.i 0, nl, nl, nl]]]

def tailC : Nat → C → C
  | n + 1, .seq _ b => tailC n b
  | _, c => c

def twoM' : Model := { twoM with vars := [⟨⟨#[57, 97]⟩, 0, 3⟩, ⟨⟨#[121]⟩, -1, 2⟩] }
theorem known_two_ok' : okModel twoM' := by
  simp [okModel, okVar, okTerms, okTerm, I64, twoM, twoM', maxLen]
  exact ⟨by decide, by decide⟩

theorem known_last (s s7 : St) (hL : s.hp.length = 28) (q9 : gt s7.sl 9 = .ptr 28 1 0 0) (he : ∃ R O os, s7.hp = s.hp ++ [.mem false R [[.own 30 3 0 2 2, nl, .bool true, .own 31 2 0 2 2]], O, .mem false [] (twoM.vars.map Var.cells), .mem false [] (twoM.goal.map Term.cells)] ++ os) :
    vc Try.prog (tailC 15 hallmarklaw4_known.ir) (fun e s => match e with | .exit _ => False | _ => resP s hallmarklaw4_known.rs ∧ (resV s hallmarklaw4_known.rs).fzP s.hp ∧ (resV s hallmarklaw4_known.rs).fz s.hp = .bool true) s7 := by
  obtain ⟨w1, w2, w3, w4, w5, w6, w7, w8⟩ := known_two
  obtain ⟨R, O, os, he⟩ := he
  have c1 := check_spec twoM' known_two_ok'
  unfold hallmarklaw4_known.ir
  simp only [tailC]
  refine vc_cut (fun s' => gt s'.sl 9 = .ptr 28 1 0 0 ∧ s'.hp = s.hp ++ [.mem false R [[.own 30 3 0 2 2, nl, .bool true, .own 31 2 0 2 2]], O, .mem false [] (twoM'.vars.map Var.cells), .mem false [] (twoM.goal.map Term.cells)] ++ os) ?_ ?_
  · simp -dsimp [List.getElem?_append, List.set_append, hL, q9, he, twoM, twoM', Var.cells, Term.cells]
  rintro s8 ⟨q9, he⟩
  refine vc_cut (fun s' => gt s'.sl 11 = V.i 41) ?_ ?_
  · simp -dsimp [↓callb_fn, List.getElem?_append, List.set_append, hL, q9, he, twoM, twoM', Var.cells, Term.cells]
    refine sub_use ?_ c1 ?_
    · repeat' (first | exact V.subL.nil | apply V.subL.cons | exact V.sub.refl _ | exact V.sub.nil _ | apply V.sub.agg)
    simp -dsimp
    exact w8
  rintro s9 q11
  simp [q11, hallmarklaw4_known.rs]
end Go.Abs.G
