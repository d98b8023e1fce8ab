import Derived.Test.YtcahkhebjblijaaOb4
set_option linter.all false
namespace Go.Abs.G
open Go.Proofs
set_option linter.unusedVariables false
set_option linter.unusedSimpArgs false

def vl6 (m : Model) (any : List Int) (i : Nat) : Int := if i < any.length then (vAt m i).lo + any.getD i 0 % (w1 m i + 1) else (vAt m i).lo
def vs6 (m : Model) (any : List Int) (n : Nat) : List Int := (List.range n).map (vl6 m any)
theorem vs6_succ (m : Model) (any : List Int) (n : Nat) : vs6 m any (n + 1) = vs6 m any n ++ [vl6 m any n] := by simp [vs6, List.range_succ]
theorem vs6_len (m : Model) (any : List Int) (n : Nat) : (vs6 m any n).length = n := by simp [vs6]
section
variable {m : Model} (hr : Right m)
include hr
theorem vl6_in {any : List Int} {i : Nat} (hi : i < m.vars.length) : (vAt m i).lo ≤ vl6 m any i ∧ vl6 m any i ≤ (vAt m i).hi := by
  have hv := v_ok hr hi
  have hw : w1 m i = (vAt m i).hi - (vAt m i).lo := rfl
  have h0 := hv.le
  unfold vl6
  split
  · have h1 := Int.emod_nonneg (any.getD i 0) (show w1 m i + 1 ≠ 0 by omega)
    have h2 := Int.emod_lt_of_pos (any.getD i 0) (show 0 < w1 m i + 1 by omega)
    omega
  · omega
theorem vs6_in {any : List Int} : ∀ i < m.vars.length, (vAt m i).lo ≤ vL (vs6 m any m.vars.length) i ∧ vL (vs6 m any m.vars.length) i ≤ (vAt m i).hi := fun i hi => by
  have : vL (vs6 m any m.vars.length) i = vl6 m any i := by simp [vL, vs6, List.getD, hi]
  rw [this]; exact vl6_in hr hi

variable {A : V} (hA : A = vOd (orderOf m)) {B K : O} (hB : B = .mem false [] [m.cells]) (hK : K.refs = [])
include hA hB hK
theorem law_b0 {any : List Int} {Q : Ex → St → Prop} {st : St}
    (hst : At [(1, vInts any), (2, .ptr 0 1 0 0), (6, A), (8, .own 2 1 0 0 0), (9, V.i 0), (10, V.i 0)] [B, K, .mem false [] []] st)
    (hQ : ∀ st' : St, At [(2, .ptr 0 1 0 0), (6, A), (8, .own 2 1 0 m.vars.length m.vars.length), (9, V.i (An m))] [B, K, .mem false [] (ri (vs6 m any m.vars.length))] st' → Q (.exit 0) st') :
    vc Try.prog (.loop hallmarklaw6_OrderBack.b0) Q st := by
  have hAi : A.ids = [] := by rw [hA]; simp [vOd, V.ids]
  have hBr : B.refs = [] := by rw [hB]; rfl
  have hnv := hr.nv
  obtain ⟨Y, hY⟩ : ∃ Y, Y = vInts any := ⟨_, rfl⟩
  have hYi : Y.ids = [] := by rw [hY]; rfl
  rw [← hY] at hst
  obtain ⟨hh, h⟩ := hst
  refine vc_upto 3 (by rw [hh]; simp) m.vars.length (fun i st => ∃ C, C = vs6 m any i ∧ At [(1, Y), (2, .ptr 0 1 0 0), (6, A), (8, .own 2 1 0 i i), (9, V.i (sO m i)), (10, V.i i)] [B, K, .mem false [] (ri C)] st) ⟨[], rfl, hh, by simpa [sO, psum] using h⟩ ?_
  clear hh h
  rintro i ⟨sl, hp, bs⟩ hi ⟨C, hC, rfl, h⟩
  simp only [sls_cons, sls_one] at h
  unfold hallmarklaw6_OrderBack.b0
  by_cases hil : i < m.vars.length
  · have hil' : (i : Int) < m.vars.length := by omega
    have hw : IntKind.i64.wrap ((i : Int) + 1) = ((i + 1 : Nat) : Int) := by rw [wrap64] <;> omega
    have hv := v_ok hr hil
    have hvg : ∀ hh, m.vars[i]'hh = vAt m i := fun hh => vget hil
    have hcl : (vAt m i).cells = [.str (vAt m i).name, V.i (vAt m i).lo, V.i (vAt m i).hi] := rfl
    have hsu := vs6_succ m any i
    rw [← hC] at hsu
    have hss : sO m (i + 1) = sO m i + w1 m i := rfl
    have rC : (ri C).length = i := by rw [ri_len, hC, vs6_len]
    have hwd : w1 m i = (vAt m i).hi - (vAt m i).lo := rfl
    have b1 := hv.lo; have b2 := hv.hi; have b3 := hv.le; have b4 := hv.dom
    have hin := vl6_in hr (any := any) hil
    have hb1 : ∀ st1 : St, At [(1, Y), (2, .ptr 0 1 0 0), (6, A), (8, .own 2 1 0 i i), (9, V.i (sO m i)), (10, V.i i), (11, V.i (vAt m i).lo), (12, V.i (vAt m i).hi), (13, V.i ((vAt m i).lo + 1))] [B, K, .mem false [] (ri C)] st1 →
        vc Try.prog (.loop hallmarklaw6_OrderBack.b1) (fun e st' => e = .exit 2 ∧ At [(1, Y), (2, .ptr 0 1 0 0), (6, A), (8, .own 2 1 0 i i), (9, V.i (sO m (i + 1))), (10, V.i i), (11, V.i (vAt m i).lo), (12, V.i (vAt m i).hi)] [B, K, .mem false [] (ri C)] st') st1 := by
      rw [hss]
      exact fun st1 h1 => law_b1 hr hA hB hK hYi rfl hil h1 fun st' h2 => ⟨rfl, h2⟩
    obtain ⟨lo, hlo⟩ : ∃ lo, lo = (vAt m i).lo := ⟨_, rfl⟩
    obtain ⟨hi', hhi⟩ : ∃ hi', hi' = (vAt m i).hi := ⟨_, rfl⟩
    obtain ⟨nm, hnm⟩ : ∃ nm, nm = (vAt m i).name := ⟨_, rfl⟩
    obtain ⟨w, hwE⟩ : ∃ w, w = vl6 m any i := ⟨_, rfl⟩
    have hwv : w = if i < any.length then lo + any.getD i 0 % (hi' - lo + 1) else lo := by rw [hwE, hlo, hhi]; rfl
    rw [← hwE] at hsu
    rw [← hlo] at b1 b3 b4 hcl hb1
    rw [← hhi] at b2 b3 b4 hcl hb1
    rw [← hnm] at hcl
    have w1' : IntKind.i64.wrap (lo + 1) = lo + 1 := wrap64 (by omega) (by omega)
    have w2' : IntKind.i64.wrap (hi' - lo) = hi' - lo := wrap64 (by omega) (by omega)
    have w3' : IntKind.i64.wrap (hi' - lo + 1) = hi' - lo + 1 := wrap64 (by omega) (by omega)
    have hbb : ((i : Int) + 1) * 8 ≤ 140737488355328 := by omega
    refine vc_cut (At [(1, Y), (2, .ptr 0 1 0 0), (6, A), (8, .own 2 1 0 i i), (9, V.i (sO m i)), (10, V.i i)] [B, K, .mem false [] (ri C)]) (by simp -dsimp [h, At, hB, Model.cells, vVars, vCons, vTerms, hil']) ?_
    try clear h
    rintro ⟨sl, hp, bs⟩ ⟨rfl, h⟩
    simp only [sls_cons, sls_one, sls_nil] at h
    refine vc_cut (At [(1, Y), (2, .ptr 0 1 0 0), (6, A), (8, .own 2 1 0 (i + 1) (i + 1)), (9, V.i (sO m (i + 1))), (10, V.i i)] [B, K, .mem false [] (ri (C ++ [w])), .res, .res]) ?_ ?_
    · refine vc_block_of ?_
      refine vc_cut (At [(1, Y), (2, .ptr 0 1 0 0), (6, A), (8, .own 2 1 0 i i), (9, V.i (sO m i)), (10, V.i i), (11, V.i lo), (12, V.i hi')] [B, K, .mem false [] (ri C)]) (by simp -dsimp [h, At, hB, Model.cells, vVars, vCons, vTerms, hil, hil', hvg, hcl]) ?_
      try clear h
      rintro ⟨sl, hp, bs⟩ ⟨rfl, h⟩
      simp only [sls_cons, sls_one, sls_nil] at h
      refine vc_cut (At [(1, Y), (2, .ptr 0 1 0 0), (6, A), (8, .own 2 1 0 i i), (9, V.i (sO m (i + 1))), (10, V.i i), (11, V.i lo), (12, V.i hi')] [B, K, .mem false [] (ri C)]) ?_ ?_
      · refine vc_cut (At [(1, Y), (2, .ptr 0 1 0 0), (6, A), (8, .own 2 1 0 i i), (9, V.i (sO m i)), (10, V.i i), (11, V.i lo), (12, V.i hi'), (13, V.i (lo + 1))] [B, K, .mem false [] (ri C)]) (by simp -dsimp [h, At, w1']) ?_
        try clear h
        rintro ⟨sl, hp, bs⟩ ⟨rfl, h⟩
        simp only [sls_cons, sls_one, sls_nil] at h
        refine vc_block_of (vc_mono ?_ (hb1 _ ⟨rfl, by simpa using h⟩))
        rintro e st' ⟨rfl, h2⟩
        exact h2
      try clear h
      rintro ⟨sl, hp, bs⟩ ⟨rfl, h⟩
      simp only [sls_cons, sls_one, sls_nil] at h
      refine vc_cut (At [(1, Y), (2, .ptr 0 1 0 0), (6, A), (8, .own 2 1 0 i i), (9, V.i (sO m (i + 1))), (10, V.i i), (11, V.i lo), (12, V.i hi'), (18, V.i lo)] [B, K, .mem false [] (ri C)]) (by simp -dsimp [h, At]) ?_
      try clear h
      rintro ⟨sl, hp, bs⟩ ⟨rfl, h⟩
      simp only [sls_cons, sls_one, sls_nil] at h
      refine vc_cut (At [(1, Y), (2, .ptr 0 1 0 0), (6, A), (8, .own 2 1 0 i i), (9, V.i (sO m (i + 1))), (10, V.i i), (18, V.i w)] [B, K, .mem false [] (ri C)]) ?_ ?_
      · by_cases hia : i < any.length
        · have hia' : (i : Int) < any.length := by omega
          rw [if_pos hia] at hwv
          have eg : any.getD i 0 = any[i] := by simp [List.getD, hia]
          have hpl := place6_spec any[i] (hi' - lo + 1) (by omega) (by omega)
          rw [← eg] at hpl
          have h1 := Int.emod_nonneg (any.getD i 0) (show hi' - lo + 1 ≠ 0 by omega)
          have h2 := Int.emod_lt_of_pos (any.getD i 0) (show 0 < hi' - lo + 1 by omega)
          obtain ⟨u, hu⟩ : ∃ u, u = any.getD i 0 := ⟨_, rfl⟩
          have hug : ∀ hh, any[i]'hh = u := fun hh => by rw [hu, eg]
          rw [← hu] at hpl h1 h2 hwv
          obtain ⟨z, hz⟩ : ∃ z, z = u % (hi' - lo + 1) := ⟨_, rfl⟩
          rw [← hz] at hpl h1 h2 hwv
          have w4' : IntKind.i64.wrap (lo + z) = w := by rw [hwv]; exact wrap64 (by omega) (by omega)
          simp -dsimp [h, hY, vInts, hia, hia', hug, w2', w3']
          refine gcall hpl (by simp -dsimp [h, w2', w3']) (by simp) ?_
          simp -dsimp [h, At, w4', hY, vInts]
        · have hia' : ¬ (i : Int) < any.length := by omega
          rw [if_neg hia] at hwv
          simp -dsimp [h, hY, vInts, hia, hia', At, hwv]
      try clear h
      rintro ⟨sl, hp, bs⟩ ⟨rfl, h⟩
      simp only [sls_cons, sls_one, sls_nil] at h
      simp -dsimp [h, At, rC, hbb]
      simp [ri]
    try clear h
    rintro ⟨sl, hp, bs⟩ ⟨rfl, h⟩
    simp only [sls_cons, sls_one, sls_nil] at h
    simp -dsimp [h, At, hw, hil, hBr, hK, hAi, hYi]
    rw [hsu]
  · have hil' : ¬ (i : Int) < m.vars.length := by omega
    have e : i = m.vars.length := by omega
    subst e
    simp -dsimp [h, hB, Model.cells, vVars, vCons, vTerms, hil']
    refine hQ _ ?_
    rw [hC]
    simp -dsimp [h, At, hB, Model.cells, vVars, vCons, vTerms]
    rfl

theorem law_b2 {X : V} (hX : X.ids = []) {C : O} (hC : C.refs = []) {Q : Ex → St → Prop} {st : St}
    (hst : At [(2, .ptr 0 1 0 0), (6, A), (8, X), (9, V.i (An m)), (19, V.i 0)] [B, K, C] st)
    (hQ : ∀ st' : St, At [(2, .ptr 0 1 0 0), (6, A), (8, X), (9, V.i (Bn m))] [B, K, C] st' → Q (.exit 4) st') :
    vc Try.prog (.loop hallmarklaw6_OrderBack.b2) Q st := by
  have hAi : A.ids = [] := by rw [hA]; simp [vOd, V.ids]
  have hBr : B.refs = [] := by rw [hB]; rfl
  have hnv := hr.nv
  have hob := od_ok hr
  obtain ⟨hh, h⟩ := hst
  refine vc_upto 3 (by rw [hh]; simp) m.vars.length (fun i st => At [(2, .ptr 0 1 0 0), (6, A), (8, X), (9, V.i (kO m i)), (19, V.i i)] [B, K, C] st) ⟨hh, by simpa [kO, psum] using h⟩ ?_
  clear hh h
  rintro i ⟨sl, hp, bs⟩ hi ⟨rfl, h⟩
  simp only [sls_cons, sls_one] at h
  unfold hallmarklaw6_OrderBack.b2
  by_cases hil : i < m.vars.length
  · have hil' : (i : Int) < m.vars.length := by omega
    have hw : IntKind.i64.wrap ((i : Int) + 1) = ((i + 1 : Nat) : Int) := by rw [wrap64] <;> omega
    have hv := v_ok hr hil
    have hvg : ∀ hh, m.vars[i]'hh = vAt m i := fun hh => vget hil
    have hcl : (vAt m i).cells = [.str (vAt m i).name, V.i (vAt m i).lo, V.i (vAt m i).hi] := rfl
    have hss : kO m (i + 1) = kO m i + w2 m i := by show An m + (psum (w2 m) i + w2 m i) = An m + psum (w2 m) i + w2 m i; omega
    have b1 := hv.lo; have b3 := hv.le
    have hki : (kindO (orderOf m) i (vAt m i).lo).2 = if chosen m i then 1 else 0 := by
      cases hc : chosen m i
      · rw [kind_no hr hil hc]; rfl
      · rw [kind_at hr hil hc (Int.le_refl _) b3]; rfl
    have c1 := kind6_spec (orderOf m) hob i (vAt m i).lo (by unfold W10; omega)
    rw [← hA, hki] at c1
    have hb3 : ∀ st1 : St, At [(2, .ptr 0 1 0 0), (6, A), (8, X), (9, V.i (kO m i)), (19, V.i i), (21, V.i (vAt m i).hi), (23, V.i (if chosen m i then 1 else 0)), (24, V.i (vAt m i).lo)] [B, K, C] st1 →
        vc Try.prog (.loop hallmarklaw6_OrderBack.b3) (fun e st' => e = .exit 6 ∧ At [(2, .ptr 0 1 0 0), (6, A), (8, X), (9, V.i (kO m (i + 1))), (19, V.i i)] [B, K, C] st') st1 := by
      rw [hss]
      exact fun st1 h1 => law_b3 hr hA hB hK hX hC hil h1 fun st' h2 => ⟨rfl, h2⟩
    obtain ⟨lo, hlo⟩ : ∃ lo, lo = (vAt m i).lo := ⟨_, rfl⟩
    obtain ⟨hi', hhi⟩ : ∃ hi', hi' = (vAt m i).hi := ⟨_, rfl⟩
    obtain ⟨nm, hnm⟩ : ∃ nm, nm = (vAt m i).name := ⟨_, rfl⟩
    obtain ⟨z, hz⟩ : ∃ z : Int, z = if chosen m i then 1 else 0 := ⟨_, rfl⟩
    rw [← hlo] at hcl hb3 c1
    rw [← hhi] at hcl hb3
    rw [← hnm] at hcl
    rw [← hz] at hb3 c1
    refine vc_cut (At [(2, .ptr 0 1 0 0), (6, A), (8, X), (9, V.i (kO m i)), (19, V.i i)] [B, K, C]) (by simp -dsimp [h, At, hB, Model.cells, vVars, vCons, vTerms, hil']) ?_
    try clear h
    rintro ⟨sl, hp, bs⟩ ⟨rfl, h⟩
    simp only [sls_cons, sls_one, sls_nil] at h
    refine vc_cut (At [(2, .ptr 0 1 0 0), (6, A), (8, X), (9, V.i (kO m (i + 1))), (19, V.i i)] [B, K, C]) ?_ ?_
    · refine vc_block_of ?_
      refine vc_cut (At [(2, .ptr 0 1 0 0), (6, A), (8, X), (9, V.i (kO m i)), (19, V.i i), (20, V.i lo), (21, V.i hi')] [B, K, C]) (by simp -dsimp [h, At, hB, Model.cells, vVars, vCons, vTerms, hil, hil', hvg, hcl]) ?_
      try clear h
      rintro ⟨sl, hp, bs⟩ ⟨rfl, h⟩
      simp only [sls_cons, sls_one, sls_nil] at h
      refine vc_cut (At [(2, .ptr 0 1 0 0), (6, A), (8, X), (9, V.i (kO m i)), (19, V.i i), (20, V.i lo), (21, V.i hi'), (23, V.i z)] [B, K, C]) ?_ ?_
      · simp -dsimp [h]
        refine gcall c1 (by simp -dsimp [h]) (by simp [hAi]) ?_
        simp -dsimp [h, At]
      try clear h
      rintro ⟨sl, hp, bs⟩ ⟨rfl, h⟩
      simp only [sls_cons, sls_one, sls_nil] at h
      refine vc_cut (At [(2, .ptr 0 1 0 0), (6, A), (8, X), (9, V.i (kO m i)), (19, V.i i), (21, V.i hi'), (23, V.i z), (24, V.i lo)] [B, K, C]) (by simp -dsimp [h, At]) ?_
      try clear h
      rintro ⟨sl, hp, bs⟩ ⟨rfl, h⟩
      simp only [sls_cons, sls_one, sls_nil] at h
      refine vc_block_of (vc_mono ?_ (hb3 _ ⟨rfl, by simpa using h⟩))
      rintro e st' ⟨rfl, h2⟩
      exact h2
    try clear h
    rintro ⟨sl, hp, bs⟩ ⟨rfl, h⟩
    simp only [sls_cons, sls_one, sls_nil] at h
    simp -dsimp [h, At, hw, hil, hBr, hK, hAi, hX, hC]
  · have hil' : ¬ (i : Int) < m.vars.length := by omega
    have e : i = m.vars.length := by omega
    subst e
    simp -dsimp [h, hB, Model.cells, vVars, vCons, vTerms, hil']
    refine hQ _ ?_
    simp -dsimp [h, At, hB, Model.cells, vVars, vCons, vTerms]
    rfl

theorem law_b4 {vs : List Int} {X : V} (hX : X = vInts vs) (hn : vs.length = m.vars.length) {out : List Bool} (hso : SetOk m vs out) {S : V} (hS : S = vBools out) {C : O} (hC : C.refs = []) {Q : Ex → St → Prop} {st : St}
    (hst : At [(2, .ptr 0 1 0 0), (6, A), (8, X), (9, V.i (Bn m)), (29, S), (30, .bool true), (31, V.i 0)] [B, K, C] st)
    (hQ : ∀ st' : St, At [(6, A), (8, X), (9, V.i (Nn m)), (29, S), (30, .bool true)] [B, K, C] st' → Q (.exit 8) st') :
    vc Try.prog (.loop hallmarklaw6_OrderBack.b4) Q st := by
  have hAi : A.ids = [] := by rw [hA]; simp [vOd, V.ids]
  have hBr : B.refs = [] := by rw [hB]; rfl
  have hXi : X.ids = [] := by rw [hX]; rfl
  have hSi : S.ids = [] := by rw [hS]; rfl
  have hnc := hr.nc
  obtain ⟨hh, h⟩ := hst
  refine vc_upto 3 (by rw [hh]; simp) m.cons.length (fun i st => At [(2, .ptr 0 1 0 0), (6, A), (8, X), (9, V.i (tO m i)), (29, S), (30, .bool true), (31, V.i i)] [B, K, C] st) ⟨hh, by simpa [tO, psum] using h⟩ ?_
  clear hh h
  rintro i ⟨sl, hp, bs⟩ hi ⟨rfl, h⟩
  simp only [sls_cons, sls_one] at h
  unfold hallmarklaw6_OrderBack.b4
  by_cases hil : i < m.cons.length
  · have hil' : (i : Int) < m.cons.length := by omega
    have hw : IntKind.i64.wrap ((i : Int) + 1) = ((i + 1 : Nat) : Int) := by rw [wrap64] <;> omega
    have hcg : ∀ hh, m.cons[i]'hh = cAt m i := fun hh => cget hil
    have hss : tO m (i + 1) = tO m i + w3 m i := by show Bn m + (psum (w3 m) i + w3 m i) = Bn m + psum (w3 m) i + w3 m i; omega
    have hcl : (cAt m i).cells = [V.i (cAt m i).kind, V.i (cAt m i).op, vTerms (cAt m i).terms, V.i (cAt m i).k, V.i (cAt m i).v, V.i (cAt m i).x, V.i (cAt m i).y, vInts (cAt m i).xs, vInts (cAt m i).table, vIntss (cAt m i).rows] := rfl
    obtain ⟨D, hD⟩ : ∃ D, D = O.mem false [] [(cAt m i).cells] := ⟨_, rfl⟩
    have hDr : D.refs = [] := by rw [hD]; rfl
    have hb5 : ∀ st1 : St, At [(2, .ptr 0 1 0 0), (6, A), (8, X), (9, V.i (tO m i)), (29, S), (30, .bool true), (31, V.i i), (32, .ptr 3 1 0 0), (33, V.i 0)] [B, K, C, D] st1 →
        vc Try.prog (.loop hallmarklaw6_OrderBack.b5) (fun e st' => e = .exit 10 ∧ At [(2, .ptr 0 1 0 0), (6, A), (8, X), (9, V.i (tO m (i + 1))), (29, S), (30, .bool true), (31, V.i i)] [B, K, C, D] st') st1 := by
      rw [hss]
      exact fun st1 h1 => law_b5 hr hA hB hK hX hn hso hS hC hil hD h1 fun st' h2 => ⟨rfl, h2⟩
    refine vc_cut (At [(2, .ptr 0 1 0 0), (6, A), (8, X), (9, V.i (tO m i)), (29, S), (30, .bool true), (31, V.i i)] [B, K, C]) (by simp -dsimp [h, At, hB, Model.cells, vVars, vCons, vTerms, hil']) ?_
    try clear h
    rintro ⟨sl, hp, bs⟩ ⟨rfl, h⟩
    simp only [sls_cons, sls_one, sls_nil] at h
    refine vc_cut (At [(2, .ptr 0 1 0 0), (6, A), (8, X), (9, V.i (tO m (i + 1))), (29, S), (30, .bool true), (31, V.i i)] [B, K, C, D]) ?_ ?_
    · refine vc_block_of ?_
      refine vc_cut (At [(2, .ptr 0 1 0 0), (6, A), (8, X), (9, V.i (tO m i)), (29, S), (30, .bool true), (31, V.i i), (32, .ptr 3 1 0 0)] [B, K, C, D]) (by simp -dsimp [h, At, hB, hD, Model.cells, vVars, vCons, hil, hil', hcg, hcl, vInts, vIntss, vTerms]) ?_
      try clear h
      rintro ⟨sl, hp, bs⟩ ⟨rfl, h⟩
      simp only [sls_cons, sls_one, sls_nil] at h
      refine vc_cut (At [(2, .ptr 0 1 0 0), (6, A), (8, X), (9, V.i (tO m i)), (29, S), (30, .bool true), (31, V.i i), (32, .ptr 3 1 0 0), (33, V.i 0)] [B, K, C, D]) (by simp -dsimp [h, At]) ?_
      try clear h
      rintro ⟨sl, hp, bs⟩ ⟨rfl, h⟩
      simp only [sls_cons, sls_one, sls_nil] at h
      refine vc_block_of (vc_mono ?_ (hb5 _ ⟨rfl, by simpa using h⟩))
      rintro e st' ⟨rfl, h2⟩
      exact h2
    try clear h
    rintro ⟨sl, hp, bs⟩ ⟨rfl, h⟩
    simp only [sls_cons, sls_one, sls_nil] at h
    simp -dsimp [h, At, hw, hil, hBr, hK, hAi, hXi, hSi, hC]
  · have hil' : ¬ (i : Int) < m.cons.length := by omega
    have e : i = m.cons.length := by omega
    subst e
    simp -dsimp [h, hB, Model.cells, vVars, vCons, vTerms, hil']
    refine hQ _ ?_
    simp -dsimp [h, At, hB, Model.cells, vVars, vCons, vTerms]
    rfl
end
end Go.Abs.G

namespace Go.Abs.G
open Go.Proofs
set_option linter.unusedVariables false
set_option linter.unusedSimpArgs false

theorem back6_law (m : Model) (any : List Int) (hz : zModel m) (ha : zInts any) : Pf Try.prog hallmarklaw6_OrderBack.id [.agg m.cells, vInts any] (.bool true) := by
  refine DC.of hallmarklaw6_OrderBack.ok (by simp) ?_
  unfold hallmarklaw6_OrderBack.ir
  have hM : (maxLen : Int) ≤ 9223372036854775807 := by decide
  have hal := ha.1.1
  obtain ⟨B, hB⟩ : ∃ B, B = O.mem false [] [m.cells] := ⟨_, rfl⟩
  have hBr : B.refs = [] := by rw [hB]; rfl
  refine vc_cut (At [(1, vInts any), (2, .ptr 0 1 0 0)] [B]) (by simp -dsimp [At, hB, Model.cells, vVars, vCons, vTerms]) ?_
  try clear h
  rintro ⟨sl, hp, bs⟩ ⟨rfl, h⟩
  simp only [sls_cons, sls_one, sls_nil] at h
  refine vc_cut (At [(1, vInts any), (2, .ptr 0 1 0 0), (5, .ptr 1 1 0 0)] [B, cnt 20000]) ?_ ?_
  · simp -dsimp [h]
    refine gcallm (many_spec 20000) [] (by simp -dsimp [h, addAll]) ⟨by simp, by simp, by simp, by simp⟩ (by simp -dsimp [h]) (by simp [sub]) (by simp) ?_
    simp -dsimp [h, At, cnt, merge, place, back]
  try clear h
  rintro ⟨sl, hp, bs⟩ ⟨rfl, h⟩
  simp only [sls_cons, sls_one, sls_nil] at h
  refine vc_cut (fun st => ∃ l, okLeft l ∧ At [(1, vInts any), (2, .ptr 0 1 0 0), (5, .ptr 1 1 0 0)] [B, cnt l] st) ?_ ?_
  · simp -dsimp [h, hB, Model.cells, vVars, vCons, vTerms]
    refine gcallm_gen (cntModel3 20000 m (by constructor <;> decide) hz.1) [1] (by simp -dsimp [h, addAll, cnt]) ⟨by simp, by simp, by simp [cnt], by simp [cnt]⟩ (by simp -dsimp [h, idx, List.idxOf_cons, Model.cells, vVars, vCons, vTerms]) (by simp [sub, cnt]) (by simp) ?_
    rintro r H ⟨l, hl, rfl, rfl⟩
    simp -dsimp [h, At, merge, place, cnt]
    exact ⟨hl, by simp [hB, Model.cells, vVars, vCons, vTerms]⟩
  clear h
  rintro ⟨sl, hp, bs⟩ ⟨l, hl, rfl, h⟩; simp only [sls_cons, sls_one] at h
  refine vc_cut (fun st => ∃ l, At [(1, vInts any), (2, .ptr 0 1 0 0), (5, .ptr 1 1 0 0)] [B, cnt l] st) ?_ ?_
  · simp -dsimp [h, vInts]
    refine gcallm_gen (add_spec l any.length hl (by omega) (by omega)) [1] (by simp -dsimp [h, addAll, cnt]) ⟨by simp, by simp, by simp [cnt], by simp [cnt]⟩ (by simp -dsimp [h, idx, List.idxOf_cons]) (by simp [sub, cnt]) (by simp) ?_
    rintro r H ⟨rfl, rfl⟩
    simp -dsimp [h, At, merge, place, cnt, vInts]
  clear h
  rintro ⟨sl, hp, bs⟩ ⟨l, rfl, h⟩; simp only [sls_cons, sls_one] at h
  refine vc_cut (At [(1, vInts any), (2, .ptr 0 1 0 0)] [B, cnt l]) ?_ ?_
  · simp -dsimp [h]
    refine gcallm_gen (ok_spec l) [1] (by simp -dsimp [h, addAll, cnt]) ⟨by simp, by simp, by simp [cnt], by simp [cnt]⟩ (by simp -dsimp [h, idx, List.idxOf_cons]) (by simp [sub, cnt]) (by simp) ?_
    rintro r H ⟨rfl, rfl⟩
    by_cases h0 : 0 ≤ l
    · simp -dsimp [h, h0, At, merge, place, cnt]
    · simp -dsimp [h, h0, hallmarklaw6_OrderBack.rs]
  try clear h
  rintro ⟨sl, hp, bs⟩ ⟨rfl, h⟩
  simp only [sls_cons, sls_one, sls_nil] at h
  refine vc_cut (At [(1, vInts any), (2, .ptr 0 1 0 0)] [B, cnt l]) ?_ ?_
  · simp -dsimp [h]
    refine gcall known6_spec (by simp -dsimp [h]) (by simp -dsimp [h]) ?_
    simp -dsimp [h, At]
  try clear h
  rintro ⟨sl, hp, bs⟩ ⟨rfl, h⟩
  simp only [sls_cons, sls_one, sls_nil] at h
  obtain ⟨A, hA⟩ : ∃ A, A = vOd (orderOf m) := ⟨_, rfl⟩
  have hAi : A.ids = [] := by rw [hA]; simp [vOd, V.ids]
  obtain ⟨row, j, hArj⟩ : ∃ row j, A = .ref row j := ⟨_, _, hA⟩
  obtain ⟨K, hKE⟩ : ∃ K, K = cnt l := ⟨_, rfl⟩
  have hK : K.refs = [] := by rw [hKE]; rfl
  rw [← hKE]
  have hnew := new6_spec m hz
  rw [← hA] at hnew
  simp only [Model.cells, vVars, vCons, vTerms] at hnew
  refine vc_cut (fun st => (Right m ∧ At [(1, vInts any), (2, .ptr 0 1 0 0), (6, A), (7, V.i 0)] [B, K] st) ∨ (¬ Right m ∧ ∃ e, e ≠ 0 ∧ At [(7, V.i e)] [B, K] st)) ?_ ?_
  · simp -dsimp [h, hB, Model.cells, vVars, vCons, vTerms]
    refine gcall_gen hnew (by simp -dsimp [h]) (by simp) ?_
    rintro r (⟨hr, rfl⟩ | ⟨hr, e, he, rfl⟩)
    · simp -dsimp [h, At, hr, hB, Model.cells, vVars, vCons, vTerms]
    · simp -dsimp [h, At, hr, hB, Model.cells, vVars, vCons, vTerms]
      exact he
  clear h
  intro st0 h0
  refine vc_cut (fun st => Right m ∧ At [(1, vInts any), (2, .ptr 0 1 0 0), (6, A)] [B, K] st) ?_ ?_
  · obtain ⟨sl, hp, bs⟩ := st0
    rcases h0 with ⟨hr, rfl, h⟩ | ⟨hr, e, he, rfl, h⟩ <;> simp only [sls_cons, sls_one] at h
    · simp -dsimp [h, At, hr]
    · simp -dsimp [h, he, hallmarklaw6_OrderBack.rs]
  clear h0
  rintro ⟨sl, hp, bs⟩ ⟨hr, rfl, h⟩; simp only [sls_cons, sls_one] at h
  have hnv := hr.nv
  have hob := od_ok hr
  refine vc_cut (At [(1, vInts any), (2, .ptr 0 1 0 0), (6, A)] [B, K]) (by simp -dsimp [h, hArj, At]) ?_
  try clear h
  rintro ⟨sl, hp, bs⟩ ⟨rfl, h⟩
  simp only [sls_cons, sls_one, sls_nil] at h
  refine vc_cut (At [(1, vInts any), (2, .ptr 0 1 0 0), (6, A), (8, nilS)] [B, K]) (by simp -dsimp [h, At]) ?_
  try clear h
  rintro ⟨sl, hp, bs⟩ ⟨rfl, h⟩
  simp only [sls_cons, sls_one, sls_nil] at h
  refine vc_cut (At [(1, vInts any), (2, .ptr 0 1 0 0), (6, A), (8, .own 2 1 0 0 0), (9, V.i 0)] [B, K, .mem false [] []]) ?_ ?_
  · simp -dsimp [h]
    refine ⟨_, Weak.ownnil 8 1 (by simp -dsimp [h]), ?_⟩
    simp -dsimp [h, At]
  try clear h
  rintro ⟨sl, hp, bs⟩ ⟨rfl, h⟩
  simp only [sls_cons, sls_one, sls_nil] at h
  obtain ⟨vs, hvs⟩ : ∃ vs, vs = vs6 m any m.vars.length := ⟨_, rfl⟩
  have hvn : vs.length = m.vars.length := by rw [hvs, vs6_len]
  have hvin : ∀ i < m.vars.length, (vAt m i).lo ≤ vL vs i ∧ vL vs i ≤ (vAt m i).hi := by rw [hvs]; exact vs6_in hr
  refine vc_cut (At [(2, .ptr 0 1 0 0), (6, A), (8, .own 2 1 0 m.vars.length m.vars.length), (9, V.i (An m))] [B, K, .mem false [] (ri vs)]) ?_ ?_
  · refine vc_cut (At [(1, vInts any), (2, .ptr 0 1 0 0), (6, A), (8, .own 2 1 0 0 0), (9, V.i 0), (10, V.i 0)] [B, K, .mem false [] []]) (by simp -dsimp [h, At]) ?_
    try clear h
    rintro ⟨sl, hp, bs⟩ ⟨rfl, h⟩
    simp only [sls_cons, sls_one, sls_nil] at h
    rw [hvs]
    exact vc_block_of (law_b0 hr hA hB hK ⟨rfl, by simpa using h⟩ fun st' h' => h')
  try clear h
  rintro ⟨sl, hp, bs⟩ ⟨rfl, h⟩
  simp only [sls_cons, sls_one, sls_nil] at h
  obtain ⟨X, hX⟩ : ∃ X, X = vInts vs := ⟨_, rfl⟩
  have hXi : X.ids = [] := by rw [hX]; rfl
  obtain ⟨C, hC⟩ : ∃ C, C = O.mem true [] (ri vs) := ⟨_, rfl⟩
  have hCr : C.refs = [] := by rw [hC]; rfl
  have ht : List.take m.vars.length (ri vs) = ri vs := List.take_of_length_le (by rw [ri_len]; omega)
  refine vc_cut (At [(2, .ptr 0 1 0 0), (6, A), (8, X), (9, V.i (Bn m))] [B, K, C]) ?_ ?_
  · refine vc_cut (At [(2, .ptr 0 1 0 0), (6, A), (8, X), (9, V.i (An m)), (19, V.i 0)] [B, K, C]) (by simp -dsimp [h, At, ri_len, hvn, ht, hX, hC, vInts]; rfl) ?_
    try clear h
    rintro ⟨sl, hp, bs⟩ ⟨rfl, h⟩
    simp only [sls_cons, sls_one, sls_nil] at h
    exact vc_block_of (law_b2 hr hA hB hK hXi hCr ⟨rfl, by simpa using h⟩ fun st' h' => h')
  try clear h
  rintro ⟨sl, hp, bs⟩ ⟨rfl, h⟩
  simp only [sls_cons, sls_one, sls_nil] at h
  have has := assign6_spec m hr vs hvn hvin
  rw [← hA, ← hX] at has
  refine vc_cut (fun st => ∃ out, SetOk m vs out ∧ At [(2, .ptr 0 1 0 0), (6, A), (8, X), (9, V.i (Bn m)), (29, vBools out), (30, .bool true)] [B, K, C] st) ?_ ?_
  · simp -dsimp [h]
    refine gcall_gen has (by simp -dsimp [h]) (by simp [hAi, hXi]) ?_
    rintro r ⟨out, rfl, hso⟩
    simp -dsimp [h, At]
    exact ⟨out, hso, rfl⟩
  clear h
  rintro ⟨sl, hp, bs⟩ ⟨out, hso, rfl, h⟩; simp only [sls_cons, sls_one] at h
  obtain ⟨S, hS⟩ : ∃ S, S = vBools out := ⟨_, rfl⟩
  have hSi : S.ids = [] := by rw [hS]; rfl
  rw [← hS] at h
  refine vc_cut (At [(6, A), (8, X), (9, V.i (Nn m)), (29, S), (30, .bool true)] [B, K, C]) ?_ ?_
  · refine vc_cut (At [(2, .ptr 0 1 0 0), (6, A), (8, X), (9, V.i (Bn m)), (29, S), (30, .bool true), (31, V.i 0)] [B, K, C]) (by simp -dsimp [h, At]) ?_
    try clear h
    rintro ⟨sl, hp, bs⟩ ⟨rfl, h⟩
    simp only [sls_cons, sls_one, sls_nil] at h
    exact vc_block_of (law_b4 hr hA hB hK hX hvn hso hS hCr ⟨rfl, by simpa using h⟩ fun st' h' => h')
  try clear h
  rintro ⟨sl, hp, bs⟩ ⟨rfl, h⟩
  simp only [sls_cons, sls_one, sls_nil] at h
  have hvo := values6_spec (orderOf m) hob out (by rw [hso.n]; rfl) (fun p hp => (num_ok hr hso.n p hp).1) (fun p hp => (num_ok hr hso.n p hp).2)
  rw [values_at hr hso hvn hvin, ← hA, ← hS, ← hX] at hvo
  refine vc_cut (At [(6, A), (8, X), (9, V.i (Nn m)), (30, .bool true), (40, X), (41, .bool true)] [B, K, C]) ?_ ?_
  · simp -dsimp [h]
    refine gcall hvo (by simp -dsimp [h]) (by simp [hAi, hSi]) ?_
    simp -dsimp [h, At]
  try clear h
  rintro ⟨sl, hp, bs⟩ ⟨rfl, h⟩
  simp only [sls_cons, sls_one, sls_nil] at h
  have c0 := countO_spec (orderOf m)
  have e0 : (orderOf m).n = Nn m := rfl
  rw [← hA, e0] at c0
  have hsi := sameInts6_spec vs vs (by have : (32 : Nat) ≤ maxLen := by decide
                                       omega)
  rw [← hX] at hsi
  simp -dsimp [h]
  refine gcall c0 (by simp -dsimp [h]) (by simp [hAi]) ?_
  simp -dsimp [h]
  refine gcall hsi (by simp -dsimp [h]) (by simp [hXi]) ?_
  simp -dsimp [h, hallmarklaw6_OrderBack.rs]
end Go.Abs.G
