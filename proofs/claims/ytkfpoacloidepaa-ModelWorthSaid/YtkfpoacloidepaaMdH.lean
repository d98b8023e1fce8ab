import Derived.Test.YtkfpoacloidepaaMdW
set_option linter.all false
/- Holds, Solution: what they tell. -/
namespace Go.Abs

def opB (op n k : Int) : Bool := if op = 1 then decide (n ≤ k) else if op = 3 then decide (k ≤ n) else decide (n = k)
def maxI : List Int → Int
  | [] => 0
  | [x] => x
  | x :: l => max x (maxI l)
def minI : List Int → Int
  | [] => 0
  | [x] => x
  | x :: l => min x (minI l)
def holdsK (c : Con) (g : Int → Int) : Bool :=
  if c.kind = 1 then opB c.op (sumI g c.terms) c.k
  else if c.kind = 2 then decide (g c.x ≠ g c.y + c.k)
  else if c.kind = 3 then decide ((c.xs.map g).Nodup)
  else if c.kind = 4 then decide (0 ≤ g c.x) && decide (g c.x < c.table.length) && decide (g c.y = atI c.table (g c.x))
  else if c.kind = 5 then decide (g c.y = maxI (c.xs.map g))
  else if c.kind = 6 then decide (g c.y = minI (c.xs.map g))
  else if c.kind = 7 then (if sumI g c.terms ≤ c.k then decide (g c.x = 1) else decide (g c.x = 0))
  else if c.kind = 8 then c.rows.any fun r => decide (r = c.xs.map g)
  else opB c.op ((c.xs.filter fun x => decide (g x = c.v)).length) c.k
def holdsB (c : Con) (values : List Int) : Bool :=
  if decide (conB c values.length ≠ 0) || greatB values then false else holdsK c (atI values)
def inBounds (m : Model) (values : List Int) : Bool := (m.vars.zip values).all fun p => decide (p.1.lo ≤ p.2) && decide (p.2 ≤ p.1.hi)
def solB (m : Model) (values : List Int) : Bool :=
  if !rightB m || decide (values.length ≠ m.vars.length) then false else inBounds m values && m.cons.all fun c => holdsB c values

structure ConOk (c : Con) (vars : Nat) (n : Needs) : Prop where
  terms : ∀ t ∈ c.terms, TermOk vars t
  termsN : c.terms.length ≤ 64
  xs : ∀ x ∈ c.xs, 0 ≤ x ∧ x < vars
  xsN : c.xs.length ≤ 64
  xs1 : n.xs = true → 1 ≤ c.xs.length
  x : n.x = true → 0 ≤ c.x ∧ c.x < vars
  y : n.y = true → 0 ≤ c.y ∧ c.y < vars
  k : -1000000000 ≤ c.k ∧ c.k ≤ 1000000000
  rowsN : c.rows.length ≤ 64
  tableN : c.table.length ≤ 64

theorem ConOk.of {c : Con} {vars : Nat} {n : Needs} (h : conN c vars n = 0) : ConOk c vars n := by
  unfold conN at h
  split at h
  · cases h
  · split at h
    · cases h
    · next h1 =>
      split at h
      · cases h
      · next h2 =>
        split at h
        · cases h
        · next h3 =>
          split at h
          · cases h
          · next h4 =>
            split at h
            · cases h
            · next h5 =>
              simp only [Bool.or_eq_true, not_or, Bool.not_eq_true', Bool.and_eq_true, not_and, decide_eq_true_eq, Bool.not_eq_false] at h2 h3 h5
              obtain ⟨⟨⟨t1, t2⟩, t3⟩, t4⟩ := h2
              obtain ⟨⟨⟨v1, v2⟩, v3⟩, v4⟩ := h3
              obtain ⟨⟨⟨k1, k2⟩, k3⟩, k4⟩ := h5
              have hf : ∀ {a : Bool} {k : Nat}, fieldB c n = false → (!a && decide (0 < k)) = false → countsB a k = true → k ≤ 64 := by
                intro a k _ h h'
                unfold countsB at h'
                cases a <;> simp at h h' <;> omega
              have hfield : fieldB c n = false := by simpa using h1
              have hfl := hfield
              unfold fieldB at hfl
              simp only [Bool.or_eq_false_iff] at hfl
              obtain ⟨⟨⟨⟨_, f1⟩, f2⟩, f3⟩, f4⟩ := hfl
              refine ⟨TermOk.of (by simpa using v1) (by simpa using h4), hf hfield f1 t1, fun x hx => ?_, hf hfield f2 t2, fun hn => ?_, fun hn => ?_, fun hn => ?_, ?_, ?_, hf hfield f3 t3⟩
              · have := (List.any_eq_false.1 (by simpa using v4 : c.xs.any (noB vars) = false)) x hx
                simp [noB] at this
                omega
              · unfold countsB at t2
                rw [hn] at t2
                simp at t2
                omega
              · have := v2 hn
                simp [noB] at this
                omega
              · have := v3 hn
                simp [noB] at this
                omega
              · simp [withinB] at k1
                omega
              · cases hn : n.rows
                · rw [hn] at f4
                  simp at f4
                  simp [f4]
                · have h5' := t4
                  simp [wideB, hn, countsB] at h5'
                  omega
end Go.Abs
