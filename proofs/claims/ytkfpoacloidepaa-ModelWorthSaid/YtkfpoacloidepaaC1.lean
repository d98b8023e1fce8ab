import Derived.Test.YtkfpoacloidepaaMFns
import Derived.Test.YtkfpoacloidepaaMdW
set_option linter.all false
namespace Go.Abs.G
open Go.Proofs
set_option linter.unusedVariables false

abbrev cnt (left : Int) : O := .mem false [] [[.int .i64 left]]
/-- What may be left. -/
def okLeft (left : Int) : Prop := -9223372036854775808 < left ∧ left ≤ 20000
def addL (left n : Int) : Int := if 0 ≤ left then left - n else left

theorem addL_ok {left n : Int} (h : okLeft left) (h0 : 0 ≤ n) (h1 : n ≤ 9223372036854775807) : okLeft (addL left n) := by
  unfold okLeft addL at *
  split <;> omega

theorem add_spec (left n : Int) (h : okLeft left) (h0 : 0 ≤ n) (h1 : n ≤ 9223372036854775807) :
    DC Try.prog hallmarkroom_Count_Add.id [.ptr 0 1 0 0, V.i n] [cnt left] (fun r H => r = .bool (decide (0 ≤ addL left n)) ∧ H = [cnt (addL left n)]) := by
  refine DC.of hallmarkroom_Count_Add.ok (by simp) ?_
  unfold okLeft at h
  have hw : 0 ≤ left → IntKind.i64.wrap (left - n) = left - n := fun _ => wrap64 (by omega) (by omega)
  simp [hallmarkroom_Count_Add.ir, hallmarkroom_Count_Add.rs]
  unfold addL
  split <;> simp_all <;> omega

theorem ok_spec (left : Int) : DC Try.prog hallmarkroom_Count_Ok.id [.ptr 0 1 0 0] [cnt left] (fun r H => r = .bool (decide (0 ≤ left)) ∧ H = [cnt left]) := by
  refine DC.of hallmarkroom_Count_Ok.ok (by simp) ?_
  simp [hallmarkroom_Count_Ok.ir, hallmarkroom_Count_Ok.rs]

theorem many_spec (n : Int) : DC Try.prog hallmarkroom_Many.id [V.i n] [] (fun r H => r = .ptr 0 1 0 0 ∧ H = [cnt n]) := by
  refine DC.of hallmarkroom_Many.ok (by simp) ?_
  simp [hallmarkroom_Many.ir, hallmarkroom_Many.rs]

theorem text_spec (left : Int) (s : ByteArray) (h : okLeft left) (hs : s.size ≤ maxLen) :
    DC Try.prog hallmarkroom_Count_Text.id [.ptr 0 1 0 0, .str s] [cnt left] (fun r H => H = [cnt (addL (addL left 1) s.size)]) := by
  have hm : (maxLen : Int) ≤ 9223372036854775807 := by decide
  refine DC.of hallmarkroom_Count_Text.ok (by simp) ?_
  simp [hallmarkroom_Count_Text.ir, hallmarkroom_Count_Text.rs]
  refine DC.mono (add_spec left 1 h (by decide) (by decide)) fun r H' ⟨_, hH⟩ => ?_
  subst hH
  simp
  refine DC.mono (add_spec _ s.size (addL_ok h (by decide) (by decide)) (by omega) (by omega)) fun r H' ⟨_, hH⟩ => ?_
  subst hH
  simp

theorem lists_spec (left : Int) (l : List (List Int)) (h : okLeft left) (hl : l.length ≤ maxLen) (hr : ∀ r ∈ l, r.length ≤ maxLen) :
    DC Try.prog hallmarkroom_Count_Lists.id [.ptr 0 1 0 0, vIntss l] [cnt left] (fun r H => ∃ left', okLeft left' ∧ H = [cnt left']) := by
  have hm : (maxLen : Int) ≤ 9223372036854775807 := by decide
  refine DC.of hallmarkroom_Count_Lists.ok (by simp) ?_
  simp [hallmarkroom_Count_Lists.ir, hallmarkroom_Count_Lists.rs, vIntss]
  refine WI.loop 1 (by simp) (fun s => ∃ i left', i ≤ l.length ∧ okLeft left' ∧ gt s.sl 0 = .ptr 0 1 0 0 ∧ gt s.sl 1 = vIntss l ∧ gt s.sl 4 = V.i i ∧ s.hp = [cnt left']) (fun s => (l.length - (gt s.sl 4).num).toNat) ?_ ?_
  · exact ⟨0, left, by simp [vIntss, h]⟩
  · rintro ⟨sl, hp, bs⟩ ⟨i, left', hi, h', g0, g1, g4, rfl⟩
    by_cases hil : i < l.length
    · simp [hallmarkroom_Count_Lists.b0, g0, g1, g4, vIntss, hil]
      refine DC.mono (ok_spec left') fun r H' ⟨hr', hH⟩ => ?_
      subst hr' hH
      by_cases h0 : 0 ≤ left'
      · simp [h0]
        refine DC.mono (add_spec left' 1 h' (by decide) (by decide)) fun r H' ⟨_, hH⟩ => ?_
        subst hH
        have hr2 := hr _ (List.getElem_mem hil)
        simp [vInts]
        refine DC.mono (add_spec _ (l[i].length) (addL_ok h' (by decide) (by decide)) (by omega) (by omega)) fun r H' ⟨_, hH⟩ => ?_
        subst hH
        have hw : IntKind.i64.wrap ((i : Int) + 1) = ((i + 1 : Nat) : Int) := by rw [wrap64] <;> omega
        simp [hw]
        exact ⟨⟨i + 1, by omega, addL_ok (addL_ok h' (by decide) (by decide)) (by omega) (by omega), by omega⟩, by omega⟩
      · simp [h0]
        exact h'
    · obtain rfl : i = l.length := by omega
      simp [hallmarkroom_Count_Lists.b0, g0, g1, g4, vIntss]
      exact h'

theorem cntCon_spec (left : Int) (c : Con) (h : okLeft left) (hc : okCon c) :
    DC Try.prog hallmarkroom_Count_Con.id [.ptr 0 1 0 0, .agg c.cells] [cnt left] (fun r H => ∃ left' o, okLeft left' ∧ H = [cnt left', o]) := by
  have hm : (maxLen : Int) ≤ 9223372036854775807 := by decide
  obtain ⟨_, _, ⟨h3, _⟩, _, _, _, _, ⟨h8, _⟩, ⟨h9, _⟩, h10, h11⟩ := hc
  refine DC.of hallmarkroom_Count_Con.ok (by simp) ?_
  simp [hallmarkroom_Count_Con.ir, hallmarkroom_Count_Con.rs, Con.cells, vTerms, vInts, vIntss]
  refine DC.mono (add_spec left 1 h (by decide) (by decide)) fun r H' ⟨_, hH⟩ => ?_
  subst hH
  have k1 := addL_ok h (n := 1) (by decide) (by decide)
  simp
  refine DC.mono (add_spec _ c.terms.length k1 (by omega) (by omega)) fun r H' ⟨_, hH⟩ => ?_
  subst hH
  have k2 := addL_ok k1 (n := c.terms.length) (by omega) (by omega)
  simp
  refine DC.mono (add_spec _ c.xs.length k2 (by omega) (by omega)) fun r H' ⟨_, hH⟩ => ?_
  subst hH
  have k3 := addL_ok k2 (n := c.xs.length) (by omega) (by omega)
  simp
  refine DC.mono (add_spec _ c.table.length k3 (by omega) (by omega)) fun r H' ⟨_, hH⟩ => ?_
  subst hH
  have k4 := addL_ok k3 (n := c.table.length) (by omega) (by omega)
  simp
  refine DC.mono (lists_spec _ c.rows k4 h10 fun r hr => (h11 r hr).1) fun r H' ⟨left', ho, hH⟩ => ?_
  subst hH
  simp
  exact ho

theorem cntModel_spec (left : Int) (m : Model) (h : okLeft left) (hm' : okModel m) :
    DC Try.prog hallmarkroom_Count_Model.id [.ptr 0 1 0 0, .agg m.cells] [cnt left] (fun r H => ∃ left' o, okLeft left' ∧ H = [cnt left', o]) := by
  have hm : (maxLen : Int) ≤ 9223372036854775807 := by decide
  obtain ⟨⟨hv, hv'⟩, ⟨hc, hc'⟩, hg, _⟩ := hm'
  refine DC.of hallmarkroom_Count_Model.ok (by simp) ?_
  simp [hallmarkroom_Count_Model.ir, hallmarkroom_Count_Model.rs, Model.cells, vVars, vCons, vTerms]
  refine WI.mono (Q := fun e s => e = .exit 0 ∧ ∃ left', okLeft left' ∧ gt s.sl 0 = .ptr 0 1 0 0 ∧ gt s.sl 3 = .ptr 1 1 0 0 ∧ s.hp = [cnt left', .mem false [] [m.cells]]) (WI.loop 2 (by simp) (fun s => ∃ i left', i ≤ m.vars.length ∧ okLeft left' ∧ gt s.sl 0 = .ptr 0 1 0 0 ∧ gt s.sl 3 = .ptr 1 1 0 0 ∧ gt s.sl 4 = V.i i ∧ s.hp = [cnt left', .mem false [] [m.cells]]) (fun s => (m.vars.length - (gt s.sl 4).num).toNat) ?_ ?_) ?_
  · exact ⟨0, left, by simp [Model.cells, vVars, vCons, vTerms, h]⟩
  · rintro ⟨sl, hp, bs⟩ ⟨i, left', hi, h', g0, g3, g4, rfl⟩
    by_cases hil : i < m.vars.length
    · simp [hallmarkroom_Count_Model.b0, g0, g3, g4, Model.cells, vVars, vCons, vTerms, hil]
      refine DC.mono (ok_spec left') fun r H' ⟨hr', hH⟩ => ?_
      subst hr' hH
      by_cases h0 : 0 ≤ left'
      · have hr2 := (hv' _ (List.getElem_mem hil)).1
        simp [h0, hil, Var.cells]
        refine DC.mono (text_spec left' _ h' hr2) fun r H' hH => ?_
        subst hH
        have hw : IntKind.i64.wrap ((i : Int) + 1) = ((i + 1 : Nat) : Int) := by rw [wrap64] <;> omega
        simp [hw]
        exact ⟨⟨i + 1, by omega, addL_ok (addL_ok h' (by decide) (by decide)) (by omega) (by omega), by omega⟩, by omega⟩
      · simp [h0]
        exact h'
    · obtain rfl : i = m.vars.length := by omega
      simp [hallmarkroom_Count_Model.b0, g0, g3, g4, Model.cells, vVars, vCons, vTerms]
      exact h'
  · rintro e ⟨sl, hp, bs⟩ ⟨rfl, left', h', g0, g3, rfl⟩
    simp [g0, g3]
    refine WI.mono (Q := fun e s => e = .exit 2 ∧ ∃ left', okLeft left' ∧ gt s.sl 0 = .ptr 0 1 0 0 ∧ gt s.sl 3 = .ptr 1 1 0 0 ∧ s.hp = [cnt left', .mem false [] [m.cells]]) (WI.loop 2 (by simp) (fun s => ∃ i left', i ≤ m.cons.length ∧ okLeft left' ∧ gt s.sl 0 = .ptr 0 1 0 0 ∧ gt s.sl 3 = .ptr 1 1 0 0 ∧ gt s.sl 5 = V.i i ∧ s.hp = [cnt left', .mem false [] [m.cells]]) (fun s => (m.cons.length - (gt s.sl 5).num).toNat) ?_ ?_) ?_
    · exact ⟨0, left', by simp [g0, g3, h']⟩
    · clear g0 g3 h' left'
      rintro ⟨sl, hp, bs⟩ ⟨i, left', hi, h', g0, g3, g4, rfl⟩
      by_cases hil : i < m.cons.length
      · simp [hallmarkroom_Count_Model.b1, g0, g3, g4, Model.cells, vVars, vCons, vTerms, hil]
        refine DC.mono (ok_spec left') fun r H' ⟨hr', hH⟩ => ?_
        subst hr' hH
        by_cases h0 : 0 ≤ left'
        · simp [h0, hil, Con.cells, vTerms, vInts, vIntss]
          refine DC.mono (cntCon_spec left' _ h' (hc' _ (List.getElem_mem hil))) fun r H' ⟨left2, o, h2, hH⟩ => ?_
          subst hH
          have hw : IntKind.i64.wrap ((i : Int) + 1) = ((i + 1 : Nat) : Int) := by rw [wrap64] <;> omega
          simp [hw]
          exact ⟨⟨i + 1, by omega, h2, by omega⟩, by omega⟩
        · simp [h0]
          exact h'
      · obtain rfl : i = m.cons.length := by omega
        simp [hallmarkroom_Count_Model.b1, g0, g3, g4, Model.cells, vVars, vCons, vTerms]
        exact h'
    · clear g0 g3 h' left'
      rintro e ⟨sl, hp, bs⟩ ⟨rfl, left', h', g0, g3, rfl⟩
      simp [g0, g3, Model.cells, vVars, vCons, vTerms]
      refine DC.mono (add_spec _ m.goal.length h' (by omega) (by omega)) fun r H' ⟨_, hH⟩ => ?_
      subst hH
      simp
      exact addL_ok h' (by omega) (by omega)

theorem few_spec (m : Model) (values : List Int) (hm' : okModel m) (hv : values.length ≤ maxLen) :
    DP Try.prog hallmarklaw4_few.id [.agg m.cells, vInts values] (fun r => ∃ b, r = .bool b) := by
  have hm : (maxLen : Int) ≤ 9223372036854775807 := by decide
  refine DC.of hallmarklaw4_few.ok (by simp) ?_
  simp [hallmarklaw4_few.ir, hallmarklaw4_few.rs, Model.cells, vVars, vCons, vTerms, vInts]
  refine DC.mono (many_spec 20000) fun r H' ⟨hr', hH⟩ => ?_
  subst hr' hH
  simp
  refine DC.mono (cntModel_spec 20000 m (by constructor <;> decide) hm') fun r H' ⟨left', o, h', hH⟩ => ?_
  subst hH
  simp
  refine DC.mono (add_spec left' values.length h' (by omega) (by omega)) fun r H' ⟨_, hH⟩ => ?_
  subst hH
  simp
  refine DC.mono (ok_spec _) fun r H' ⟨hr', hH⟩ => ?_
  subst hr' hH
  simp
  omega
end Go.Abs.G
