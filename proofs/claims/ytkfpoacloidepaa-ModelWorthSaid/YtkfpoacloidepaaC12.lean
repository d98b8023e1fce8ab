import Derived.Test.YtkfpoacloidepaaC11
set_option linter.all false
namespace Go.Abs.G
open Go.Proofs
set_option linter.unusedVariables false
set_option linter.unusedSimpArgs false

theorem equal_spec (a b : List Int) (ha : a.length ≤ maxLen) : Pf Try.prog slices_Equal_int_int.id [vInts a, vInts b] (.bool (decide (a = b))) := by
  have hm : (maxLen : Int) ≤ 9223372036854775807 := by decide
  refine DC.of slices_Equal_int_int.ok (by simp) ?_
  by_cases hl : a.length = b.length
  · have hl' : (a.length : Int) = b.length := by omega
    simp [slices_Equal_int_int.ir, slices_Equal_int_int.rs, vInts, hl]
    refine WI.mono (Q := fun e s => (e = .exit 0 ∧ a = b) ∨ (e = .ret ∧ a ≠ b ∧ gt s.sl 4 = .bool false)) (WI.loop 0 (by simp) (fun s => ∃ i, i ≤ a.length ∧ gt s.sl 0 = vInts a ∧ gt s.sl 1 = vInts b ∧ gt s.sl 12 = V.i a.length ∧ gt s.sl 13 = V.i i ∧ s.hp = [] ∧ a.take i = b.take i) (fun s => (a.length - (gt s.sl 13).num).toNat) ?_ ?_) ?_
    · exact ⟨0, by simp [vInts, hl]⟩
    · rintro ⟨sl, hp, bs⟩ ⟨i, hi, h0, h1, h12, h13, rfl, he⟩
      by_cases hil : i < a.length
      · have hil2 : i < b.length := by omega
        have hw : IntKind.i64.wrap ((i : Int) + 1) = ((i + 1 : Nat) : Int) := by rw [wrap64] <;> omega
        by_cases hx : a[i] = b[i]
        · have he' : a.take (i + 1) = b.take (i + 1) := by
            rw [List.take_succ_eq_append_getElem hil, List.take_succ_eq_append_getElem hil2, he, hx]
          simp [slices_Equal_int_int.b0, h0, h1, h12, h13, vInts, hil, hil2, hx, hw]
          exact ⟨⟨i + 1, by omega, by omega, he'⟩, by omega⟩
        · simp [slices_Equal_int_int.b0, h0, h1, h12, h13, vInts, hil, hil2, hx]
          exact fun h => hx (by simp [h])
      · obtain rfl : i = a.length := by omega
        rw [List.take_length, hl, List.take_length] at he
        simp [slices_Equal_int_int.b0, h0, h1, h12, h13, he]
    · rintro e ⟨sl, hp, bs⟩ (⟨rfl, he⟩ | ⟨rfl, he, h4⟩)
      · simp [he]
      · simp [he, h4]
  · have hl' : ¬ (a.length : Int) = b.length := by omega
    have hne : a ≠ b := fun h => hl (by rw [h])
    simp [slices_Equal_int_int.ir, slices_Equal_int_int.rs, vInts, hl, hl', hne]

theorem table1_spec (r l : List Int) (hr : r.length ≤ maxLen) : Pf Try.prog model_table_1.id [vInts r, .ref [vInts l] 0] (.bool (decide (r = l))) := by
  refine DC.of model_table_1.ok (by simp) ?_
  simp [model_table_1.ir, model_table_1.rs, vInts]
  exact (equal_spec r l hr).use (by simp)

section
variable {f : FuncId} {cap : List V} {g : Int → Int} {vars : Nat} (A : AtOk f cap g vars)
include A

theorem table_spec {c : Con} {n : Needs} (hk : c.kind = 8) (hc : ConOk c vars n) (hr : ∀ r ∈ c.rows, r.length ≤ maxLen) : Pf Try.prog model_table.id [.agg c.cells, .fn (.func f) [] cap] (.bool (holdsK c g)) := by
  have hm : (64 : Nat) ≤ maxLen := by decide
  have hid := A.ids
  have hok := A.ok
  refine DC.of model_table.ok (by simp) ?_
  simp [model_table.ir, model_table.rs, Con.cells, vTerms, vInts, vIntss, hid, hok]
  refine (each_spec A hc.xsN hc.xs).use ?_
  have hH : holdsK c g = c.rows.any fun r => decide (r = c.xs.map g) := by simp [holdsK, hk]
  rw [hH]
  generalize c.xs.map g = L
  simp [vInts]
  refine DP.mono (contains_ints_spec (p := fun r => decide (r = L)) (cap := [.ref [vInts L] 0]) (l := c.rows) (by simp) (by simp) (fun t ht => table1_spec t _ (hr t ht)) (by have := hc.rowsN; omega)) fun r hr' => ?_
  subst hr'
  simp

theorem filter_take_succ (p : Int → Bool) {l : List Int} {i : Nat} (h : i < l.length) : ((l.take (i + 1)).filter p).length = ((l.take i).filter p).length + if p l[i] then 1 else 0 := by
  rw [List.take_succ_eq_append_getElem h, List.filter_append, List.length_append]
  by_cases hp : p l[i] = true <;> simp [hp]

theorem count_spec {c : Con} {n : Needs} (hk : c.kind = 9) (hc : ConOk c vars n) : Pf Try.prog model_count.id [.agg c.cells, .fn (.func f) [] cap] (.bool (holdsK c g)) := by
  have hid := A.ids
  have hok := A.ok
  have hn := hc.xsN
  refine DC.of model_count.ok (by simp) ?_
  simp [model_count.ir, model_count.rs, Con.cells, vTerms, vInts, vIntss, hid, hok]
  refine (each_spec A hc.xsN hc.xs).use ?_
  simp [vInts, hid]
  refine WI.mono (Q := fun e s => e = .exit 0 ∧ gt s.sl 2 = .ptr 0 1 0 0 ∧ gt s.sl 5 = V.i ((c.xs.filter fun x => decide (g x = c.v)).length) ∧ s.hp = [.mem false [] [c.cells]]) (WI.loop 1 (by simp) (fun s => ∃ i, i ≤ c.xs.length ∧ gt s.sl 2 = .ptr 0 1 0 0 ∧ gt s.sl 5 = V.i (((c.xs.take i).filter fun x => decide (g x = c.v)).length) ∧ gt s.sl 11 = vInts (c.xs.map g) ∧ gt s.sl 12 = V.i c.xs.length ∧ gt s.sl 13 = V.i i ∧ s.hp = [.mem false [] [c.cells]]) (fun s => (c.xs.length - (gt s.sl 13).num).toNat) ?_ ?_) ?_
  · exact ⟨0, by simp [vInts, Con.cells, vTerms, vIntss]⟩
  · rintro ⟨sl, hp, bs⟩ ⟨i, hi, h2, h5, h11, h12, h13, rfl⟩
    by_cases hil : i < c.xs.length
    · have hw : IntKind.i64.wrap ((i : Int) + 1) = ((i + 1 : Nat) : Int) := by rw [wrap64] <;> omega
      have hs := filter_take_succ A (fun x => decide (g x = c.v)) hil
      have hle : ((c.xs.take i).filter fun x => decide (g x = c.v)).length ≤ 64 := by
        have := List.length_filter_le (fun x => decide (g x = c.v)) (c.xs.take i)
        simp at this; omega
      generalize hN : ((c.xs.take i).filter fun x => decide (g x = c.v)).length = N at *
      have hw2 : IntKind.i64.wrap ((N : Int) + 1) = ((N + 1 : Nat) : Int) := by rw [wrap64] <;> omega
      by_cases hx : g c.xs[i] = c.v
      · simp [model_count.b0, h2, h5, h11, h12, h13, vInts, Con.cells, vTerms, vIntss, hil, hx, hw, hw2]
        simp [hx] at hs
        exact ⟨⟨i + 1, by omega, by omega, by omega⟩, by omega⟩
      · simp [model_count.b0, h2, h5, h11, h12, h13, vInts, Con.cells, vTerms, vIntss, hil, hx, hw, hw2]
        simp [hx] at hs
        exact ⟨⟨i + 1, by omega, by omega, by omega⟩, by omega⟩
    · obtain rfl : i = c.xs.length := by omega
      rw [List.take_length] at h5
      simp [model_count.b0, h2, h5, h11, h12, h13]
  · rintro e ⟨sl, hp, bs⟩ ⟨rfl, h2, h5, rfl⟩
    simp [h2, h5, Con.cells, vTerms, vInts, vIntss]
    refine (is_spec c.op _ c.k).use ?_
    simp [holdsK, hk]
end
end Go.Abs.G
