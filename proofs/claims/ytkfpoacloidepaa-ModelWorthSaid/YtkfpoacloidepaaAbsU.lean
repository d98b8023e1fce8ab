import Derived.Test.YtkfpoacloidepaaAbsT
set_option linter.all false
/- Functions. -/
namespace Go.Abs
set_option linter.unusedVariables false

inductive Rs where
  | sl (slot : Nat)
  | ce (slot : Nat) (agg : Bool) (n : Nat)
  deriving Inhabited

def Rs.val (s : St) : Rs → V
  | .sl k => gt s.sl k
  | .ce k agg n => ldV s.hp agg n (gt s.sl k)
def Rs.ok (s : St) : Rs → Prop
  | .sl _ => True
  | .ce k agg n => ldP s.hp agg n (gt s.sl k)

def resV (s : St) : List Rs → V
  | [r] => r.val s
  | rs => .tup (rs.map (Rs.val s))
def resP (s : St) : List Rs → Prop
  | [] => True
  | r :: rs => r.ok s ∧ resP s rs

def cmpRs (P : Program) : ResultVar → Option Rs
  | .tmp t => some (.sl t)
  | .cell a t => (P.info? t).bind fun i => (isAggP P t).map fun agg => .ce a agg i.size

/-- Function f has this IR. -/
def isFn (P : Program) (f : FuncId) (N : Nat) (ann : List (Nat × RA)) (ir : C) (rs : List Rs) : Prop :=
  ∃ fn code, P.funcs[f]? = some fn ∧ fn.body = some code ∧ fn.ntmps = N ∧ cmpC P N ann code = some ir ∧ fn.results.toList.mapM (cmpRs P) = some rs

def initS : List V → Nat → Sl
  | [], _ => e0
  | x :: l, k => up (initS l (k + 1)) k x

theorem initS_get : ∀ (xs : List V) (k t : Nat), gt (initS xs k) t = if k ≤ t then (xs[t - k]?).getD .any else .any := by
  intro xs
  induction xs with
  | nil => intro k t; simp [initS, gt_e0]
  | cons x xs ih =>
    intro k t
    simp only [initS, gt_up]
    by_cases h : k = t
    · subst h; simp
    · rw [if_neg h, ih]
      by_cases h2 : k ≤ t
      · rw [if_pos (by omega), if_pos h2, show t - k = (t - (k + 1)) + 1 from by omega]; rfl
      · rw [if_neg (by omega), if_neg h2]

def resOne (tmps : Array Value) (r : ResultVar) : Sem Value :=
  match r with
  | .tmp t => pure (tmps.getD t undef)
  | .cell b t => do loadVar t (← asAddr (tmps.getD b undef))

section
variable {P : Program}

theorem run_results {w : World} {β : Nat → Hd} {F : Nat → Prop} {N : Nat} {s : St} {a : Act} (hR : Rel w β F N s a) : ∀ (l : List ResultVar) (rs : List Rs), l.mapM (cmpRs P) = some rs → resP s rs →
    ∃ vs : List Value, (l.mapM (resOne a.tmps)).run P w = .ok vs w ∧ vs.length = rs.length ∧
      ∀ (i : Nat) (v : Value) (r : Rs), vs[i]? = some v → rs[i]? = some r → RV (cx w.heap s.hp β F) v (r.val s) := by
  intro l
  induction l with
  | nil => intro rs h _; simp at h; subst h; exact ⟨[], by simp, rfl, fun i v r h => by simp at h⟩
  | cons x l ih =>
    intro rs h hp
    simp only [List.mapM_cons, Option.bind_eq_bind, Option.bind_eq_some_iff, Option.pure_def, Option.some.injEq] at h
    obtain ⟨r, hr, rs', hrs, rfl⟩ := h
    obtain ⟨hp1, hp2⟩ := hp
    obtain ⟨vs, h1, h2, h3⟩ := ih rs' hrs hp2
    have one : ∃ v, (resOne a.tmps x).run P w = .ok v w ∧ RV (cx w.heap s.hp β F) v (r.val s) := by
      cases x with
      | tmp t =>
        simp only [cmpRs, Option.some.injEq] at hr; subst hr
        exact ⟨_, rfl, hR.sl t⟩
      | cell b t =>
        simp only [cmpRs, Option.bind_eq_some_iff, Option.map_eq_some_iff] at hr
        obtain ⟨i, hi, agg, ha, rfl⟩ := hr
        obtain ⟨u, e1, e2⟩ := run_loadVar' (P := P) hR.hok (hR.sl b) hi ha hp1
        obtain ⟨bb, o, e3, _⟩ := (hR.sl b).cells hR.hok hp1.1
        refine ⟨u, ?_, e2⟩
        rw [e3] at e1
        show (do loadVar t (← asAddr (a.tmps.getD b undef)) : Sem Value).run P w = _
        rw [e3]
        simp only [Instr.loadAt, Instr.sureAddr, Sem.run_bind, Sem.run_pure, Result.andThen_ok] at e1
        simp only [asAddr, Sem.run_bind, Sem.run_pure, Result.andThen_ok]
        exact e1
    obtain ⟨v, hv, rv⟩ := one
    refine ⟨v :: vs, ?_, by simp [h2], fun i u q hu hq => ?_⟩
    · simp only [List.mapM_cons, Sem.run_bind, hv, Result.andThen_ok, h1, Sem.run_pure]
    · cases i with
      | zero => simp at hu hq; subst hu hq; exact rv
      | succ i => exact h3 i u q hu hq

/-- A function's body gives its call. -/
theorem DC.of {f : FuncId} {N : Nat} {ann : List (Nat × RA)} {ir : C} {rs : List Rs} {xs : List V} {H : Heap} {Q : V → Heap → Prop} (hf : isFn P f N ann ir rs) (hl : xs.length ≤ N)
    (h : vc P ir (fun e s => match e with | .exit _ => False | _ => resP s rs ∧ Q (resV s rs) s.hp) ⟨initS xs 0, H, 0⟩) : DC P f xs H Q := by
  obtain ⟨fn, code, h1, h2, h3, h4, h5⟩ := hf
  intro w β F vs hk hr
  refine calls_of_wp h1 h2 ?_
  have hR : Rel w β F N ⟨initS xs 0, H, 0⟩ { tmps := vs ++ Array.replicate (fn.ntmps - vs.size) undef, defers := [] } := by
    refine ⟨hk, fun t => ?_, rfl, by have := hr.1; simp; omega⟩
    simp only [initS_get, Nat.zero_le, if_true, Nat.sub_zero]
    by_cases ht : t < xs.length
    · have hx : xs[t]? = some xs[t] := List.getElem?_eq_getElem ht
      have hv : vs[t]? = some (vs[t]'(by rw [hr.1]; exact ht)) := Array.getElem?_eq_getElem _
      rw [hx]
      simp only [Array.getD_eq_getD_getElem?, Array.getElem?_append]
      rw [if_pos (by rw [hr.1]; exact ht), hv]
      exact hr.2 t _ _ hv hx
    · rw [List.getElem?_eq_none (by omega)]
      exact .any
  refine wp_mono (vc_sound (n0 := H.length) code ir _ _ h4 (Nat.le_refl _) h w β F _ hR) fun e a' w' hL => ?_
  obtain ⟨x, β', st', rfl, h2', h3', h4', h5'⟩ := hL
  have fin : (resP st' rs ∧ Q (resV st' rs) st'.hp) → a'.defers = [] ∧ ∃ v, (results fn a'.tmps).run P w' = .ok v w' ∧ ∃ r x H' β', Ending.returned v = .returned r ∧ Adv F w H β w' H' β' ∧ RV (cx w'.heap H' β' F) r x ∧ Q x H' := by
    rintro ⟨hp, hQ⟩
    refine ⟨h3'.df, ?_⟩
    obtain ⟨us, e1, e2, e3⟩ := run_results (P := P) h3' fn.results.toList rs h5 hp
    have hadv : Adv F w H β w' st'.hp β' := by
      refine ⟨h3'.hok, ⟨h2'.size, h2'.same, fun id hl => ?_, fun id g hl e => ?_⟩, h2'.ext⟩
      · obtain ⟨o, ho, ho2⟩ := hl
        exact h2'.live id (lt_of_get ho) ⟨o, ho, ho2⟩
      · obtain ⟨o, ho, ho2⟩ := hl
        exact h2'.hd id g (lt_of_get ho) ⟨o, ho, ho2⟩ e
    have hrun : (results fn a'.tmps).run P w' = .ok (if h : us.length = 1 then us[0] else .tuple us.toArray) w' := by
      have hres : results fn a'.tmps = (do let vs ← fn.results.mapM (resOne a'.tmps); pure (if h : vs.size = 1 then vs[0] else .tuple vs)) := rfl
      rw [hres, Array.mapM_eq_mapM_toList]
      simp only [Sem.run_bind, Sem.run_map, e1, Result.andThen_ok, Sem.run_pure]
      simp
    refine ⟨_, hrun, _, resV st' rs, st'.hp, β', rfl, hadv, ?_, hQ⟩
    match rs, e2, e3 with
    | [r], e2, e3 =>
      have hl1 : us.length = 1 := by simpa using e2
      rw [dif_pos hl1]
      simp only [resV]
      exact e3 0 _ r (List.getElem?_eq_getElem (by omega)) rfl
    | [], e2, e3 =>
      have hl0 : us.length = 0 := by simpa using e2
      rw [dif_neg (by omega)]
      simp only [resV]
      exact .tup (by simpa using e2) fun i v x h1 h2 => by simp at h2
    | r1 :: r2 :: rs', e2, e3 =>
      have hl2 : us.length = rs'.length + 2 := by simpa using e2
      rw [dif_neg (by omega)]
      simp only [resV]
      refine .tup (by simp [hl2]) fun i v x h1 h2 => ?_
      simp only [List.getElem?_map, Option.map_eq_some_iff] at h2
      obtain ⟨r, hr', rfl⟩ := h2
      exact e3 i v r (by simpa using h1) hr'
  cases x with
  | norm => exact fin h5'
  | exit i => exact h5'.elim
  | ret => exact fin h5'

end
end Go.Abs
