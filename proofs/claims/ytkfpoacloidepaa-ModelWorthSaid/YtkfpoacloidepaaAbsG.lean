import Derived.Test.YtkfpoacloidepaaAbsF
set_option linter.all false
/- Operations that leave memory alone: the machine does so (3). -/
namespace Go.Abs
set_option linter.unusedVariables false

section
variable {P : Program} {w : World} {β : Nat → Hd} {F : Nat → Prop} {N : Nat} {st : St} {a : Act}

theorem range_lt (s : ByteArray) {i : Nat} (h : i < s.size) : s[i]? = some (s.data.toList.getD i 0) := by
  have h' : i < s.data.toList.length := by simpa using h
  have : s[i]? = some s[i] := getElem?_pos s i h
  rw [this]
  congr 1
  show s.data[i] = _
  rw [List.getD, List.getElem?_eq_getElem h']
  simp

/-- Laying parts over cells. -/
theorem run_fill {c : Cx} (place : Nat → Option (Nat × Nat)) : ∀ (l : List (Nat × Value)) (ps : List (Nat × Nat × V)) (cs : Array Value) (xs : List V),
    cs.size = xs.length → (∀ (i : Nat) (u : Value) (y : V), cs[i]? = some u → xs[i]? = some y → RV c u y) →
    l.length = ps.length →
    (∀ (i : Nat) (q : Nat × Value) (p : Nat × Nat × V), l[i]? = some q → ps[i]? = some p → place q.1 = some (p.1, p.2.1) ∧ q.2.cells.size = p.2.1 ∧ p.2.2.cells.length = p.2.1 ∧ p.1 + p.2.1 ≤ xs.length ∧
      (∀ (j : Nat) (u : Value) (y : V), q.2.cells[j]? = some u → p.2.2.cells[j]? = some y → RV c u y) ∧ ∀ (j : Nat) (u : Value), q.2.cells[j]? = some u → u.oneCell' = true) →
    (∀ (i : Nat) (u : Value), cs[i]? = some u → u.oneCell' = true) →
    ∃ vs, Instr.fill place cs l = some vs ∧ vs.size = (fillV xs ps).length ∧ (∀ (i : Nat) (u : Value) (y : V), vs[i]? = some u → (fillV xs ps)[i]? = some y → RV c u y) ∧ ∀ (i : Nat) (u : Value), vs[i]? = some u → u.oneCell' = true := by
  intro l
  induction l with
  | nil =>
    intro ps cs xs h1 h2 h3 h4 h5
    cases ps with
    | nil => exact ⟨cs, rfl, h1, h2, h5⟩
    | cons p ps => simp at h3
  | cons q l ih =>
    intro ps cs xs h1 h2 h3 h4 h5
    cases ps with
    | nil => simp at h3
    | cons p ps =>
      obtain ⟨g1, g2, g3, g4, g5, g6⟩ := h4 0 q p rfl rfl
      obtain ⟨i, v⟩ := q
      obtain ⟨off, n, x⟩ := p
      simp only at g1 g2 g3 g4 g5 g6
      simp only [Instr.fill, g1, fillV]
      rw [if_neg (by simp; omega)]
      have hfold : (v.cells.zipIdx.foldl (fun cs (p : Value × Nat) => cs.setIfInBounds (off + p.2) p.1) cs).toList = cs.toList.take off ++ v.cells.toList ++ cs.toList.drop (off + v.cells.size) := by
        have := foldl_setIf v.cells.toList cs off 0 (by simp; omega) (by omega)
        simp only [Nat.add_zero, Array.length_toList] at this
        rw [← Array.foldl_toList, Array.toList_zipIdx]
        exact this
      generalize hcs' : v.cells.zipIdx.foldl (fun cs (p : Value × Nat) => cs.setIfInBounds (off + p.2) p.1) cs = cs' at *
      have hsz : cs'.size = cs.size := by
        rw [← Array.length_toList, hfold]; simp; omega
      refine ih ps cs' (xs.take off ++ x.cells ++ xs.drop (off + x.cells.length)) ?_ ?_ (by simpa using h3) ?_ ?_
      · rw [hsz]; simp; omega
      · intro k u y hu hy
        have hu' : cs'.toList[k]? = some u := by simpa using hu
        rw [hfold] at hu'
        rw [List.append_assoc, List.getElem?_append] at hu' hy
        simp only [List.length_take, Array.length_toList] at hu' hy
        rw [show min off cs.size = off from by omega] at hu'
        rw [show min off xs.length = off from by omega] at hy
        by_cases hk : k < off
        · rw [if_pos hk, List.getElem?_take, if_pos hk] at hu' hy
          exact h2 k u y (by simpa using hu') hy
        · rw [if_neg hk, List.getElem?_append] at hu' hy
          simp only [Array.length_toList] at hu'
          rw [g2] at hu'
          rw [g3] at hy
          by_cases hk2 : k - off < n
          · rw [if_pos hk2] at hu' hy
            exact g5 (k - off) u y (by simpa using hu') hy
          · rw [if_neg hk2, List.getElem?_drop] at hu' hy
            exact h2 _ u y (by simpa using hu') hy
      · intro k q p hq hp
        obtain ⟨a1, a2, a3, a4, a5⟩ := h4 (k + 1) q p hq hp
        exact ⟨a1, a2, a3, by simp; omega, a5⟩
      · intro k u hu
        have hu' : cs'.toList[k]? = some u := by simpa using hu
        rw [hfold] at hu'
        have hm := List.mem_of_getElem? hu'
        simp only [List.mem_append] at hm
        rcases hm with (hm | hm) | hm
        · obtain ⟨i, hi⟩ := List.getElem?_of_mem (List.mem_of_mem_take hm)
          exact h5 i u (by simpa using hi)
        · obtain ⟨i, hi⟩ := List.getElem?_of_mem hm
          exact g6 i u (by simpa using hi)
        · obtain ⟨i, hi⟩ := List.getElem?_of_mem (List.mem_of_mem_drop hm)
          exact h5 i u (by simpa using hi)

theorem mapM_some {α β : Type} {f : α → Option β} : ∀ {l : List α} {r : List β}, l.mapM f = some r → r.length = l.length ∧ ∀ (i : Nat) (x : α), l[i]? = some x → ∃ y, r[i]? = some y ∧ f x = some y := by
  intro l
  induction l with
  | nil => intro r h; simp at h; subst h; exact ⟨rfl, fun i x h => by simp at h⟩
  | cons x l ih =>
    intro r h
    simp only [List.mapM_cons, Option.bind_eq_bind, Option.bind_eq_some_iff, Option.pure_def, Option.some.injEq] at h
    obtain ⟨y, hy, r', hr', rfl⟩ := h
    obtain ⟨h1, h2⟩ := ih hr'
    refine ⟨by simp [h1], fun i z hz => ?_⟩
    cases i with
    | zero => simp at hz; subst hz; exact ⟨y, rfl, hy⟩
    | succ i => exact h2 i z hz

theorem run_mapM_places {fs : Array Field} (h : ∀ (i : Nat) (f : Field), fs[i]? = some f → ∃ inf, P.info? f.type = some inf) :
    ∃ pl : Array (Nat × Nat), (fs.mapM fun f => (do pure (f.offset, ← sizeOf f.type) : Sem (Nat × Nat))).run P w = .ok pl w ∧
      ∀ (i : Nat) (f : Field) (inf : TypeInfo), fs[i]? = some f → P.info? f.type = some inf → pl[i]? = some (f.offset, inf.size) := by
  rw [Array.mapM_eq_mapM_toList]
  have key : ∀ (l : List Field), (∀ f ∈ l, ∃ inf, P.info? f.type = some inf) → ∃ pl : List (Nat × Nat), (l.mapM fun f => (do pure (f.offset, ← sizeOf f.type) : Sem (Nat × Nat))).run P w = .ok pl w ∧
      ∀ (i : Nat) (f : Field) (inf : TypeInfo), l[i]? = some f → P.info? f.type = some inf → pl[i]? = some (f.offset, inf.size) := by
    intro l
    induction l with
    | nil => intro _; exact ⟨[], by simp, fun i f inf h => by simp at h⟩
    | cons f l ih =>
      intro hl
      obtain ⟨inf, hi⟩ := hl f (by simp)
      obtain ⟨pl, h1, h2⟩ := ih fun g hg => hl g (by simp [hg])
      refine ⟨(f.offset, inf.size) :: pl, by simp only [List.mapM_cons, Sem.run_bind, run_sizeOf' hi, Result.andThen_ok, Sem.run_pure, h1], fun i g inf' hg hi' => ?_⟩
      cases i with
      | zero => simp at hg; subst hg; rw [hi] at hi'; injection hi' with hi'; subst hi'; rfl
      | succ i => exact h2 i g inf' hg hi'
  obtain ⟨pl, h1, h2⟩ := key fs.toList fun f hf => by
    obtain ⟨i, hi⟩ := List.getElem?_of_mem hf
    exact h i f (by simpa using hi)
  refine ⟨pl.toArray, by simp only [Sem.run_map, h1, Result.andThen_ok], fun i f inf hf hi => ?_⟩
  simpa using h2 i f inf (by simpa using hf) hi

theorem zero_cells {c : Cx} {z : Value} : ∀ (i : Nat) (u : Value) (y : V), z.cells[i]? = some u → (z.cells.toList.map V.a)[i]? = some y → RV c u y := by
  intro i u y h1 h2
  simp only [List.getElem?_map, Array.getElem?_toList] at h2
  rw [h1] at h2
  simp at h2
  subst h2
  exact .a

end
end Go.Abs
