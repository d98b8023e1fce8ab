import Derived.Test.YtkfpoacloidepaaC8
set_option linter.all false
namespace Go.Abs.G
open Go.Proofs
set_option linter.unusedVariables false
set_option linter.unusedSimpArgs false

def sumW (g : Int → Int) (l : List Term) : Int := l.foldl (fun n t => IntKind.i64.wrap (n + IntKind.i64.wrap (t.c * g t.x))) 0

theorem sumW_succ (g : Int → Int) (l : List Term) {i : Nat} (h : i < l.length) : sumW g (l.take (i + 1)) = IntKind.i64.wrap (sumW g (l.take i) + IntKind.i64.wrap (l[i].c * g l[i].x)) := by
  unfold sumW
  rw [List.take_succ_eq_append_getElem h, List.foldl_append]; rfl

theorem sum_spec0 {f : FuncId} {cap : List V} {g : Int → Int} {l : List Term} (hok : okFunc Try.prog f = true) (hids : V.idsL cap = []) (hg : ∀ t ∈ l, DP Try.prog f (V.i t.x :: cap) fun r => r = V.i (g t.x)) (hl : l.length ≤ maxLen) :
    Pf Try.prog model_sum.id [vTerms l, .fn (.func f) [] cap] (V.i (sumW g l)) := by
  have hm : (maxLen : Int) ≤ 9223372036854775807 := by decide
  refine DC.of model_sum.ok (by simp) ?_
  simp [model_sum.ir, model_sum.rs, vTerms]
  refine WI.loop 0 (by simp) (fun s => ∃ i, i ≤ l.length ∧ gt s.sl 1 = .fn (.func f) [] cap ∧ gt s.sl 5 = V.i (sumW g (l.take i)) ∧ gt s.sl 8 = vTerms l ∧ gt s.sl 9 = V.i l.length ∧ gt s.sl 10 = V.i i ∧ s.hp = []) (fun s => (l.length - (gt s.sl 10).num).toNat) ?_ ?_
  · exact ⟨0, by simp [vTerms, sumW]⟩
  · rintro ⟨sl, hp, bs⟩ ⟨i, hi, h1, h5, h8, h9, h10, rfl⟩
    by_cases hil : i < l.length
    · simp [model_sum.b0, h1, h5, h8, h9, h10, vTerms, Term.cells, hil, hok, hids]
      refine DP.mono (hg _ (List.getElem_mem hil)) fun r hr => ?_
      subst hr
      have hw : IntKind.i64.wrap ((i : Int) + 1) = ((i + 1 : Nat) : Int) := by rw [wrap64] <;> omega
      simp [hids, hw]
      exact ⟨⟨i + 1, hil, (sumW_succ g l hil).symm, rfl⟩, by omega⟩
    · obtain rfl : i = l.length := by omega
      simp [model_sum.b0, h1, h5, h8, h9, h10, vTerms, model_sum.rs]

theorem sumW_eq {g : Int → Int} : ∀ (l : List Term) (a : Int), (∀ t ∈ l, -1000000000000000 ≤ t.c * g t.x ∧ t.c * g t.x ≤ 1000000000000000) → -4000000000000000000 + 1000000000000000 * l.length ≤ a → a ≤ 4000000000000000000 - 1000000000000000 * l.length →
    l.foldl (fun n t => IntKind.i64.wrap (n + IntKind.i64.wrap (t.c * g t.x))) a = a + sumI g l := by
  intro l
  induction l with
  | nil => intro a _ _ _; simp [sumI]
  | cons t l ih =>
    intro a h h1 h2
    have h0 := h t (by simp)
    rw [List.length_cons] at h1 h2
    rw [List.foldl_cons, wrap64 (n := t.c * g t.x) (by omega) (by omega), wrap64 (n := a + t.c * g t.x) (by omega) (by omega), ih _ (fun t ht => h t (by simp [ht])) (by omega) (by omega)]
    simp [sumI]; omega

/-- A sum of few terms whose parts aren't great. -/
theorem sum_spec {f : FuncId} {cap : List V} {g : Int → Int} {l : List Term} (hok : okFunc Try.prog f = true) (hids : V.idsL cap = []) (hg : ∀ t ∈ l, DP Try.prog f (V.i t.x :: cap) fun r => r = V.i (g t.x)) (hl : l.length ≤ 64)
    (hb : ∀ t ∈ l, (-1000000 ≤ t.c ∧ t.c ≤ 1000000) ∧ (-1000000000 ≤ g t.x ∧ g t.x ≤ 1000000000)) :
    Pf Try.prog model_sum.id [vTerms l, .fn (.func f) [] cap] (V.i (sumI g l)) := by
  have hm : (64 : Nat) ≤ maxLen := by decide
  have e := sumW_eq (g := g) l 0 (fun t ht => mul_bound (hb t ht).1 (hb t ht).2) (by omega) (by omega)
  rw [Int.zero_add] at e
  have := sum_spec0 hok hids hg (by omega : l.length ≤ maxLen)
  unfold sumW at this
  rw [e] at this
  exact this

theorem worth1_spec (values : List Int) (x : Int) (h0 : 0 ≤ x) (h1 : x < values.length) : Pf Try.prog model_Worth_1.id [V.i x, .ref [vInts values] 0] (V.i (atI values x)) := by
  refine DC.of model_Worth_1.ok (by simp) ?_
  obtain ⟨n, rfl⟩ := Int.eq_ofNat_of_zero_le h0
  have h1' : n < values.length := by omega
  simp [model_Worth_1.ir, model_Worth_1.rs, vInts, h1', atI]

theorem great_at {l : List Int} (h : greatB l = false) {x : Int} (h0 : 0 ≤ x) (h1 : x < l.length) : -1000000000 ≤ atI l x ∧ atI l x ≤ 1000000000 := by
  unfold greatB at h
  rw [List.any_eq_false] at h
  have hi : x.toNat < l.length := by omega
  have hx := h l[x.toNat] (List.getElem_mem hi)
  have e : atI l x = l[x.toNat] := by simp [atI, List.getD, List.getElem?_eq_getElem hi]
  rw [e]
  simp [withinB] at hx
  omega

theorem worth_spec (m : Model) (values : List Int) (hm' : okModel m) (hv : values.length ≤ maxLen) : Pf Try.prog model_Worth.id [.agg m.cells, vInts values] (V.i (worthB m values)) := by
  refine DC.of model_Worth.ok (by simp) ?_
  simp [model_Worth.ir, model_Worth.rs, Model.cells, vVars, vCons, vTerms, vInts]
  refine (right_spec m hm').use ?_
  cases hr : rightB m
  · simp [worthB, hr]
  by_cases hl : values.length = m.vars.length
  · have hl' : (values.length : Int) = m.vars.length := by omega
    simp [hl']
    refine (sized_spec values hv).use ?_
    cases hg : greatB values
    · simp
      have hR := right_iff.1 hr
      have ht := hR.terms
      have hs := sum_spec (f := model_Worth_1.id) (cap := [.ref [vInts values] 0]) (g := atI values) (l := m.goal) (by simp) (by simp)
        (fun t h => worth1_spec values t.x (ht.1 t h).x.1 (by rw [hl]; exact (ht.1 t h).x.2)) ht.2 (fun t h => ⟨⟨(ht.1 t h).c.1, (ht.1 t h).c.2.1⟩, great_at hg (ht.1 t h).x.1 (by rw [hl]; exact (ht.1 t h).x.2)⟩)
      refine DP.mono (show DP Try.prog model_sum.id [.view 2 (m.goal.map Term.cells), .fn (.func model_Worth_1.id) [] [.ref [.view 1 (values.map fun n => [V.i n])] 0]] _ from hs) fun r hr' => ?_
      subst hr'
      simp [worthB, hr, hl, hg]
    · simp [worthB, hr, hl, hg]
  · have hl' : ¬ (values.length : Int) = m.vars.length := by omega
    simp [worthB, hr, hl, hl']
end Go.Abs.G
