import Derived.Test.YtkfpoacloidepaaMdS
set_option linter.all false
/- Worth, Floor, Ceil: plain laws. -/
namespace Go.Abs

def sumI (g : Int → Int) (l : List Term) : Int := (l.map fun t => t.c * g t.x).sum
def atI (l : List Int) (x : Int) : Int := l.getD x.toNat 0
def worthB (m : Model) (values : List Int) : Int :=
  if !rightB m || decide (values.length ≠ m.vars.length) || greatB values then 0 else sumI (atI values) m.goal
def varAt (m : Model) (x : Int) : Var := m.vars.getD x.toNat ⟨⟨#[]⟩, 0, 0⟩
def endOf (m : Model) (least : Bool) (t : Term) : Int := if decide (0 < t.c) = least then t.c * (varAt m t.x).lo else t.c * (varAt m t.x).hi
def endsI (m : Model) (least : Bool) (l : List Term) : Int := (l.map (endOf m least)).sum
def endsB (m : Model) (least : Bool) : Int := if !rightB m then 0 else endsI m least m.goal

def prodFrom (most : Int) : Int → List Var → Int × Bool
  | n, [] => (n, true)
  | n, v :: l => if most.tdiv (v.hi - v.lo + 1) < n then (0, false) else prodFrom most (n * (v.hi - v.lo + 1)) l
def prodB (m : Model) (most : Int) : Int × Bool := if !rightB m || decide (most < 1) then (0, false) else prodFrom most 1 m.vars

theorem mul_bound {c v : Int} (hc : -1000000 ≤ c ∧ c ≤ 1000000) (hv : -1000000000 ≤ v ∧ v ≤ 1000000000) : -1000000000000000 ≤ c * v ∧ c * v ≤ 1000000000000000 := by
  have h : (c * v).natAbs ≤ 1000000 * 1000000000 := by
    rw [Int.natAbs_mul]
    exact Nat.mul_le_mul (by omega) (by omega)
  omega

theorem firstBad_none {α : Type} {f : Nat → α → Int} : ∀ {l : List α} {i : Nat}, firstBad f i l = none → ∀ (j : Nat) (x : α), l[j]? = some x → f (i + j) x = 0 := by
  intro l
  induction l with
  | nil => intro i _ j x h; simp at h
  | cons y l ih =>
    intro i h j x hj
    simp only [firstBad] at h
    split at h
    · next h0 =>
      cases j with
      | zero => simp at hj; subst hj; simpa using h0
      | succ j =>
        have := ih h j x (by simpa using hj)
        rw [← this]; congr 1; omega
    · cases h

theorem firstBad_some {α : Type} {f : Nat → α → Int} : ∀ {l : List α} {i : Nat} {p : Nat × Int}, firstBad f i l = some p → p.2 ≠ 0 := by
  intro l
  induction l with
  | nil => intro i p h; simp [firstBad] at h
  | cons y l ih =>
    intro i p h
    simp only [firstBad] at h
    split at h
    · exact ih h
    · next h0 => cases h; exact h0

structure Right (m : Model) : Prop where
  nv : 1 ≤ m.vars.length ∧ m.vars.length ≤ 32
  nc : m.cons.length ≤ 64
  var : ∀ (i : Nat) (v : Var), m.vars[i]? = some v → varB m.vars i v = 0
  con : ∀ c ∈ m.cons, conB c m.vars.length = 0
  goal : goalB m = 0

theorem right_iff {m : Model} : rightB m = true ↔ Right m := by
  unfold rightB checkB
  simp only [decide_eq_true_eq]
  constructor
  · intro h
    split at h
    · simp at h
    · next h1 =>
      split at h
      · next p i e hp => exact absurd h (firstBad_some hp)
      · next hv =>
        split at h
        · simp at h
        · next h2 =>
          split at h
          · next p i e hp => exact absurd h (firstBad_some hp)
          · next hc =>
            split at h
            · next hg =>
              refine ⟨by omega, by omega, fun i v hi => ?_, fun c hc' => ?_, hg⟩
              · have := firstBad_none hv i v hi; simpa using this
              · obtain ⟨j, hj⟩ := List.getElem?_of_mem hc'
                have := firstBad_none hc j c hj; simpa using this
            · next hg => exact absurd h hg
  · intro h
    rw [if_neg (by have := h.nv; omega)]
    have key : ∀ {α : Type} (f : Nat → α → Int) (l : List α) (i : Nat), (∀ (j : Nat) (x : α), l[j]? = some x → f (i + j) x = 0) → firstBad f i l = none := by
      intro α f l
      induction l with
      | nil => intro i _; rfl
      | cons x l ih =>
        intro i h
        simp only [firstBad]
        rw [if_pos (by simpa using h 0 x rfl)]
        refine ih _ fun j y hj => ?_
        have := h (j + 1) y (by simpa using hj)
        rw [← this]; congr 1; omega
    rw [key _ m.vars 0 fun j x hj => by rw [Nat.zero_add]; exact h.var j x hj]
    simp only
    rw [if_neg (by have := h.nc; omega), key _ m.cons 0 fun j x hj => h.con x (List.mem_of_getElem? hj)]
    simp [h.goal]

structure VarOk (v : Var) : Prop where
  lo : -1000000000 ≤ v.lo ∧ v.lo ≤ 1000000000
  hi : -1000000000 ≤ v.hi ∧ v.hi ≤ 1000000000
  le : v.lo ≤ v.hi
  dom : v.hi - v.lo < 64

theorem VarOk.of {l : List Var} {i : Nat} {v : Var} (h : varB l i v = 0) : VarOk v := by
  unfold varB at h
  split at h
  · cases h
  · split at h
    · cases h
    · next h2 =>
      simp only [withinB, Bool.or_eq_true, Bool.not_eq_true', Bool.and_eq_false_iff, decide_eq_true_eq, decide_eq_false_iff_not, not_or, Bool.not_eq_false] at h2
      constructor <;> omega

structure TermOk (vars : Nat) (t : Term) : Prop where
  x : 0 ≤ t.x ∧ t.x < vars
  c : -1000000 ≤ t.c ∧ t.c ≤ 1000000 ∧ t.c ≠ 0

theorem TermOk.of {vars : Nat} {l : List Term} (h1 : badVarB vars l = false) (h2 : badCoefB l = false) : ∀ t ∈ l, TermOk vars t := by
  intro t ht
  unfold badVarB at h1
  unfold badCoefB at h2
  rw [List.any_eq_false] at h1 h2
  have h1 := h1 t ht
  have h2 := h2 t ht
  simp only [withinB, Bool.or_eq_true, Bool.not_eq_true', Bool.and_eq_false_iff, decide_eq_true_eq, decide_eq_false_iff_not, not_or, Bool.not_eq_false] at h1 h2
  constructor <;> omega

theorem Right.terms {m : Model} (h : Right m) : (∀ t ∈ m.goal, TermOk m.vars.length t) ∧ m.goal.length ≤ 64 := by
  have hg := h.goal
  unfold goalB at hg
  split at hg
  · cases hg
  · next h1 =>
    split at hg
    · cases hg
    · next h2 =>
      split at hg
      · cases hg
      · next h3 =>
        split at hg
        · cases hg
        · next h4 =>
          refine ⟨TermOk.of (by simpa using h3) (by simpa using h4), ?_⟩
          simp [countsB] at h1 h2
          cases hh : m.hasGoal
          · simp [h1 hh]
          · have := h2 hh
            omega

/-- A problem's variable at a place. -/
theorem Right.varAt {m : Model} (h : Right m) {x : Int} (h0 : 0 ≤ x) (h1 : x < m.vars.length) : m.vars[x.toNat]? = some (varAt m x) ∧ VarOk (varAt m x) := by
  have hi : x.toNat < m.vars.length := by omega
  have : m.vars[x.toNat]? = some (Abs.varAt m x) := by simp [Abs.varAt, List.getD, List.getElem?_eq_getElem hi]
  exact ⟨this, VarOk.of (h.var _ _ this)⟩

/-- Values within the bounds. -/
def Within (m : Model) (l : List Int) : Prop := l.length = m.vars.length ∧ ∀ (i : Nat) (v : Var), m.vars[i]? = some v → v.lo ≤ l.getD i 0 ∧ l.getD i 0 ≤ v.hi

theorem Within.great {m : Model} (h : Right m) {l : List Int} (hw : Within m l) : greatB l = false := by
  unfold greatB
  rw [List.any_eq_false]
  intro x hx
  obtain ⟨i, hi⟩ := List.getElem?_of_mem hx
  have hlt : i < m.vars.length := by rw [← hw.1]; exact (List.getElem?_eq_some_iff.1 hi).1
  have hv := List.getElem?_eq_getElem hlt
  have h1 := hw.2 i _ hv
  have h2 := VarOk.of (h.var i _ hv)
  have h3 : l.getD i 0 = x := by simp [List.getD, hi]
  rw [h3] at h1
  have := h2.lo; have := h2.hi
  simp [withinB]
  omega

theorem mul_le_of {c a b : Int} (hc : 0 ≤ c) (h : a ≤ b) : c * a ≤ c * b := Int.mul_le_mul_of_nonneg_left h hc
theorem mul_ge_of {c a b : Int} (hc : c ≤ 0) (h : a ≤ b) : c * b ≤ c * a := Int.mul_le_mul_of_nonpos_left hc h

theorem sum_le {α : Type} {f g : α → Int} : ∀ {l : List α}, (∀ x ∈ l, f x ≤ g x) → (l.map f).sum ≤ (l.map g).sum := by
  intro l
  induction l with
  | nil => intro _; simp
  | cons x l ih =>
    intro h
    have h1 := h x (by simp)
    have h2 := ih fun y hy => h y (by simp [hy])
    simp only [List.map_cons, List.sum_cons]
    omega

theorem worth_within {m : Model} (hr : rightB m = true) {l : List Int} (hw : Within m l) : worthB m l = sumI (atI l) m.goal := by
  unfold worthB
  rw [if_neg]
  simp [hr, hw.1, hw.great (right_iff.1 hr)]

/-- P4.9: between the ends. -/
theorem worth_between {m : Model} (hr : rightB m = true) {l : List Int} (hw : Within m l) : endsB m true ≤ worthB m l ∧ worthB m l ≤ endsB m false := by
  rw [worth_within hr hw]
  have h := right_iff.1 hr
  unfold endsB
  simp only [hr, Bool.not_true, Bool.false_eq_true, if_false]
  have key : ∀ t ∈ m.goal, (varAt m t.x).lo ≤ atI l t.x ∧ atI l t.x ≤ (varAt m t.x).hi := by
    intro t ht
    have ht := h.terms.1 t ht
    exact hw.2 _ _ (h.varAt ht.x.1 ht.x.2).1
  constructor
  · refine sum_le fun t ht => ?_
    have h1 := key t ht
    unfold endOf
    by_cases hc : 0 < t.c
    · simp only [hc, decide_true, if_true]; exact mul_le_of (by omega) h1.1
    · simp only [hc, decide_false, Bool.false_eq_true, if_false]; exact mul_ge_of (by omega) h1.2
  · refine sum_le fun t ht => ?_
    have h1 := key t ht
    unfold endOf
    by_cases hc : 0 < t.c
    · simp only [hc, decide_true, Bool.true_eq_false, if_false]; exact mul_le_of (by omega) h1.2
    · simp only [hc, decide_false, if_true]; exact mul_ge_of (by omega) h1.1

/-- The ends are reached by values that stand where each term wants. -/
theorem worth_ends {m : Model} (hr : rightB m = true) {l : List Int} (hw : Within m l) (least : Bool) (hl : ∀ t ∈ m.goal, atI l t.x = if decide (0 < t.c) = least then (varAt m t.x).lo else (varAt m t.x).hi) : worthB m l = endsB m least := by
  rw [worth_within hr hw]
  unfold endsB
  simp only [hr, Bool.not_true, Bool.false_eq_true, if_false]
  unfold sumI endsI
  congr 1
  refine List.map_congr_left fun t ht => ?_
  rw [hl t ht]
  unfold endOf
  split <;> rfl

end Go.Abs
