import Derived.Test.YtkfpoacloidepaaC10
import Derived.Test.YtkfpoacloidepaaAbsZc
import Derived.Test.YtkfpoacloidepaaMdH
set_option linter.all false
namespace Go.Abs.G
open Go.Proofs
set_option linter.unusedVariables false
set_option linter.unusedSimpArgs false

structure AtOk (f : FuncId) (cap : List V) (g : Int → Int) (vars : Nat) : Prop where
  ok : okFunc Try.prog f = true
  ids : V.idsL cap = []
  run : ∀ x : Int, 0 ≤ x → x < vars → DP Try.prog f (V.i x :: cap) fun r => r = V.i (g x)
  bound : ∀ x : Int, 0 ≤ x → x < vars → -1000000000 ≤ g x ∧ g x ≤ 1000000000

theorem is_spec (op n k : Int) : Pf Try.prog model_is.id [V.i op, V.i n, V.i k] (.bool (opB op n k)) := by
  refine DC.of model_is.ok (by simp) ?_
  by_cases h1 : op = 1
  · subst h1; simp [model_is.ir, model_is.rs, opB]
  · by_cases h3 : op = 3
    · subst h3; simp [model_is.ir, model_is.rs, opB]
    · simp [model_is.ir, model_is.rs, opB, h1, h3]
      rfl

theorem holds1_spec (values : List Int) (x : Int) (h0 : 0 ≤ x) (h1 : x < values.length) : Pf Try.prog model_Holds_1.id [V.i x, .ref [vInts values] 0] (V.i (atI values x)) := by
  refine DC.of model_Holds_1.ok (by simp) ?_
  obtain ⟨n, rfl⟩ := Int.eq_ofNat_of_zero_le h0
  have h1' : n < values.length := by omega
  simp [model_Holds_1.ir, model_Holds_1.rs, vInts, h1', atI]

section
variable {f : FuncId} {cap : List V} {g : Int → Int} {vars : Nat} (A : AtOk f cap g vars)
include A

theorem sumAt_spec {l : List Term} (hl : l.length ≤ 64) (ht : ∀ t ∈ l, TermOk vars t) : Pf Try.prog model_sum.id [vTerms l, .fn (.func f) [] cap] (V.i (sumI g l)) :=
  sum_spec A.ok A.ids (fun t h => A.run _ (ht t h).x.1 (ht t h).x.2) hl fun t h => ⟨⟨(ht t h).c.1, (ht t h).c.2.1⟩, A.bound _ (ht t h).x.1 (ht t h).x.2⟩

theorem lin_spec {c : Con} {n : Needs} (hk : c.kind = 1) (hc : ConOk c vars n) : Pf Try.prog model_lin.id [.agg c.cells, .fn (.func f) [] cap] (.bool (holdsK c g)) := by
  have hid := A.ids
  refine DC.of model_lin.ok (by simp) ?_
  simp [model_lin.ir, model_lin.rs, Con.cells, vTerms, vInts, vIntss, hid]
  refine (sumAt_spec A hc.termsN hc.terms).use ?_
  simp [hid]
  refine (is_spec c.op (sumI g c.terms) c.k).use ?_
  simp [holdsK, hk]

theorem ne_spec {c : Con} {n : Needs} (hk : c.kind = 2) (hx : n.x = true) (hy : n.y = true) (hc : ConOk c vars n) : Pf Try.prog model_kinds_1.id [.agg c.cells, .fn (.func f) [] cap] (.bool (holdsK c g)) := by
  have hid := A.ids
  have hok := A.ok
  refine DC.of model_kinds_1.ok (by simp) ?_
  simp [model_kinds_1.ir, model_kinds_1.rs, Con.cells, vTerms, vInts, vIntss, hid, hok]
  refine DP.mono (A.run _ (hc.x hx).1 (hc.x hx).2) fun r hr => ?_
  subst hr
  refine DP.mono (A.run _ (hc.y hy).1 (hc.y hy).2) fun r hr => ?_
  subst hr
  have hb := A.bound _ (hc.y hy).1 (hc.y hy).2
  have hk' := hc.k
  have hw : IntKind.i64.wrap (g c.y + c.k) = g c.y + c.k := by rw [wrap64] <;> omega
  simp [hw, holdsK, hk]
  by_cases h : g c.x = g c.y + c.k <;> simp [h]

theorem element_spec {c : Con} {n : Needs} (hk : c.kind = 4) (hx : n.x = true) (hy : n.y = true) (hc : ConOk c vars n) : Pf Try.prog model_element.id [.agg c.cells, .fn (.func f) [] cap] (.bool (holdsK c g)) := by
  have hid := A.ids
  have hok := A.ok
  refine DC.of model_element.ok (by simp) ?_
  simp [model_element.ir, model_element.rs, Con.cells, vTerms, vInts, vIntss, hid, hok]
  refine DP.mono (A.run _ (hc.x hx).1 (hc.x hx).2) fun r hr => ?_
  subst hr
  generalize hi : g c.x = i
  by_cases h0 : 0 ≤ i
  · by_cases h1 : i < c.table.length
    · obtain ⟨k, rfl⟩ := Int.eq_ofNat_of_zero_le h0
      have h1' : k < c.table.length := by omega
      simp [hid, hok, h1', hi]
      refine DP.mono (A.run _ (hc.y hy).1 (hc.y hy).2) fun r hr => ?_
      subst hr
      simp [hid, hok, h1', holdsK, hk, hi, atI]
      rfl
    · simp [hid, hok, h0, h1, holdsK, hk, hi]
  · simp [hid, hok, h0, holdsK, hk, hi]

theorem reif_spec {c : Con} {n : Needs} (hk : c.kind = 7) (hx : n.x = true) (hc : ConOk c vars n) : Pf Try.prog model_reif.id [.agg c.cells, .fn (.func f) [] cap] (.bool (holdsK c g)) := by
  have hid := A.ids
  have hok := A.ok
  refine DC.of model_reif.ok (by simp) ?_
  simp [model_reif.ir, model_reif.rs, Con.cells, vTerms, vInts, vIntss, hid, hok]
  refine DP.mono (A.run _ (hc.x hx).1 (hc.x hx).2) fun r hr => ?_
  subst hr
  simp [hid, hok]
  refine (sumAt_spec A hc.termsN hc.terms).use ?_
  by_cases h : sumI g c.terms ≤ c.k
  · simp [hid, hok, h, holdsK, hk]
    rfl
  · simp [hid, hok, h, holdsK, hk]
    rfl

theorem each_spec {xs : List Int} (hl : xs.length ≤ 64) (hx : ∀ x ∈ xs, 0 ≤ x ∧ x < vars) : Pf Try.prog model_each.id [vInts xs, .fn (.func f) [] cap] (vInts (xs.map g)) := by
  have hid := A.ids
  have hok := A.ok
  refine DC.of model_each.ok (by simp) ?_
  simp [model_each.ir, model_each.rs, vInts, hid, hok]
  refine WI.mono (Q := fun e s => e = .exit 0 ∧ ((xs = [] ∧ gt s.sl 5 = .a (.slice none 0 0) ∧ s.hp = []) ∨ ∃ o, gt s.sl 5 = .own 1 1 0 xs.length xs.length ∧ s.hp = [o, .mem false [] ((xs.map g).map fun x => [V.i x])])) (WI.loop 2 (by simp) (fun s => ∃ i, i ≤ xs.length ∧ gt s.sl 1 = .fn (.func f) [] cap ∧ gt s.sl 8 = vInts xs ∧ gt s.sl 9 = V.i xs.length ∧ gt s.sl 10 = V.i i ∧
      ((i = 0 ∧ gt s.sl 5 = .a (.slice none 0 0) ∧ s.hp = []) ∨ ∃ o, 0 < i ∧ gt s.sl 5 = .own 1 1 0 i i ∧ s.hp = [o, .mem false [] (((xs.take i).map g).map fun x => [V.i x])])) (fun s => (xs.length - (gt s.sl 10).num).toNat) ?_ ?_) ?_
  · exact ⟨0, by simp [vInts]⟩
  · rintro ⟨sl, hp, bs⟩ ⟨i, hi, h1, h8, h9, h10, hcase⟩
    by_cases hil : i < xs.length
    · have hxi := hx _ (List.getElem_mem hil)
      have hw : IntKind.i64.wrap ((i : Int) + 1) = ((i + 1 : Nat) : Int) := by rw [wrap64] <;> omega
      have htk : List.take (i + 1) (List.map ((fun n => [V.i n]) ∘ g) xs) = List.take i (List.map ((fun n => [V.i n]) ∘ g) xs) ++ [[V.i (g xs[i])]] := by
        rw [List.take_succ_eq_append_getElem (by simpa using hil)]; simp
      have h1w : IntKind.i64.wrap 1 = 1 := by decide
      rcases hcase with ⟨rfl, h5, rfl⟩ | ⟨o, h0, h5, rfl⟩
      · simp [model_each.b0, h1, h5, h8, h9, h10, vInts, hil, hid, hok]
        refine DP.mono (A.run _ hxi.1 hxi.2) fun r hr => ?_
        subst hr
        simp [hid, hok]
        exact ⟨⟨1, by omega, h1w, by omega, rfl, by simpa using htk.symm⟩, by omega⟩
      · simp [model_each.b0, h1, h5, h8, h9, h10, vInts, hil, hid, hok]
        refine DP.mono (A.run _ hxi.1 hxi.2) fun r hr => ?_
        subst hr
        simp [hid, hok]
        exact ⟨by omega, by omega, ⟨i + 1, by omega, hw, by omega, rfl, htk.symm⟩, by omega⟩
    · obtain rfl : i = xs.length := by omega
      simp [model_each.b0, h1, h8, h9, h10]
      rcases hcase with ⟨h0, h5, rfl⟩ | ⟨o, h0, h5, rfl⟩
      · exact .inl ⟨by simpa using h0, h5, rfl⟩
      · refine .inr ⟨h5, ?_⟩
        simp
  · rintro e ⟨sl, hp, bs⟩ ⟨rfl, ⟨h0, h5, rfl⟩ | ⟨o, h5, rfl⟩⟩
    · simp [h0, h5]
    · simp [h5]
      exact List.take_of_length_le (by simp)
end
end Go.Abs.G
