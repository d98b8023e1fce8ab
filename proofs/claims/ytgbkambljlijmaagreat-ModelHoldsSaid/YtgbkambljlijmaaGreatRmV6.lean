import Derived.Test.YtgbkambljlijmaaGreatRmV5
set_option linter.all false
namespace Go.Abs.G
open Go.Proofs
set_option linter.unusedVariables false
set_option linter.unusedSimpArgs false

theorem anyTake1 {α : Type} {p : α → Bool} {l : List α} {i : Nat} (h : i < l.length) : (l.take (i + 1)).any p = ((l.take i).any p || p l[i]) := by
  rw [List.take_succ_eq_append_getElem h, List.any_append]; simp
theorem any_of_at {α : Type} {p : α → Bool} {l : List α} {i : Nat} (h : i < l.length) (hp : p l[i] = true) : l.any p = true := List.any_eq_true.2 ⟨_, List.getElem_mem h, hp⟩

theorem termsR_spec (l : List Term) (n : Int) (hl : l.length ≤ maxLen) : Pf Tryz.prog hallmarkref4_terms.id [vTerms l, V.i n] (V.i (termsR l n)) := by
  have hM : (maxLen : Int) ≤ 9223372036854775807 := by decide
  refine DC.of hallmarkref4_terms.ok (by simp) ?_
  unfold hallmarkref4_terms.ir
  refine vc_cut (At [(0, vTerms l), (1, V.i n)] []) (by simp -dsimp [At, vTerms]) ?_
  try clear h
  rintro ⟨sl, hp, bs⟩ ⟨rfl, h⟩
  simp only [sls_cons, sls_one, sls_nil] at h
  refine vc_cut (fun st => badVarB n l = false ∧ At [(0, vTerms l)] [] st) ?_ ?_
  · refine vc_cut (At [(0, vTerms l), (1, V.i n), (5, V.i 0)] []) (by simp -dsimp [h, At]) ?_
    try clear h
    rintro ⟨sl, hp, bs⟩ ⟨rfl, h⟩
    simp only [sls_cons, sls_one, sls_nil] at h
    refine vc_block_of (vc_upto 0 (by simp) l.length (fun i st => badVarB n (l.take i) = false ∧ At [(0, vTerms l), (1, V.i n), (5, V.i i)] [] st) ⟨rfl, rfl, by simpa using h⟩ ?_)
    clear h
    rintro i ⟨sl, hp, bs⟩ hi ⟨hx, rfl, h⟩
    simp only [sls_cons, sls_one] at h
    unfold hallmarkref4_terms.b0
    by_cases hil : i < l.length
    · have hw : IntKind.i64.wrap ((i : Int) + 1) = ((i + 1 : Nat) : Int) := by rw [wrap64] <;> omega
      refine vc_cut (At [(0, vTerms l), (1, V.i n), (5, V.i i)] []) (by simp -dsimp [h, At, hil, vTerms]) ?_
      try clear h
      rintro ⟨sl, hp, bs⟩ ⟨rfl, h⟩
      simp only [sls_cons, sls_one, sls_nil] at h
      obtain ⟨t, ht⟩ : ∃ t, t = l[i] := ⟨_, rfl⟩
      refine vc_cut (fun st => (decide (t.x < 0) || decide (n ≤ t.x)) = false ∧ At [(0, vTerms l), (1, V.i n), (5, V.i i)] [] st) ?_ ?_
      · refine vc_block_of ?_
        have hbad : (decide (t.x < 0) || decide (n ≤ t.x)) = true → termsR l n = 44 := fun e => by
          have : badVarB n l = true := any_of_at hil (by rw [← ht]; exact e)
          unfold termsR; rw [this]; rfl
        by_cases a : t.x < 0
        · simp -dsimp [h, At, hil, vTerms, ← ht, Term.cells, a, hallmarkref4_terms.rs, hbad (by simp [a])]
        · by_cases b : n ≤ t.x
          · simp -dsimp [h, At, hil, vTerms, ← ht, Term.cells, a, b, hallmarkref4_terms.rs, hbad (by simp [b])]
          · simp -dsimp [h, At, hil, vTerms, ← ht, Term.cells, a, b]
      try clear h
      rintro ⟨sl, hp, bs⟩ ⟨hb, rfl, h⟩
      simp only [sls_cons, sls_one, sls_nil] at h
      have hx2 : badVarB n (l.take (i + 1)) = false := by
        unfold badVarB at hx ⊢
        rw [anyTake1 hil, hx, ← ht, hb]; rfl
      simp -dsimp [h, At, hw, hil, vTerms, hx2]
    · have hil' : i = l.length := by omega
      subst hil'
      rw [List.take_length] at hx
      simp -dsimp [h, At, vTerms, hx]
  try clear h
  rintro ⟨sl, hp, bs⟩ ⟨hb, rfl, h⟩
  simp only [sls_cons, sls_one, sls_nil] at h
  have hT : termsR l n = if badCoefB l then 45 else 0 := by unfold termsR; rw [hb]; rfl
  rw [hT]
  refine vc_cut (fun st => badCoefB l = false ∧ At [] [] st) ?_ ?_
  · refine vc_cut (At [(0, vTerms l), (6, V.i 0)] []) (by simp -dsimp [h, At]) ?_
    try clear h
    rintro ⟨sl, hp, bs⟩ ⟨rfl, h⟩
    simp only [sls_cons, sls_one, sls_nil] at h
    refine vc_block_of (vc_upto 0 (by simp) l.length (fun i st => badCoefB (l.take i) = false ∧ At [(0, vTerms l), (6, V.i i)] [] st) ⟨rfl, rfl, by simpa using h⟩ ?_)
    clear h
    rintro i ⟨sl, hp, bs⟩ hi ⟨hx, rfl, h⟩
    simp only [sls_cons, sls_one] at h
    unfold hallmarkref4_terms.b1
    by_cases hil : i < l.length
    · have hw : IntKind.i64.wrap ((i : Int) + 1) = ((i + 1 : Nat) : Int) := by rw [wrap64] <;> omega
      refine vc_cut (At [(0, vTerms l), (6, V.i i)] []) (by simp -dsimp [h, At, hil, vTerms]) ?_
      try clear h
      rintro ⟨sl, hp, bs⟩ ⟨rfl, h⟩
      simp only [sls_cons, sls_one, sls_nil] at h
      obtain ⟨t, ht⟩ : ∃ t, t = l[i] := ⟨_, rfl⟩
      refine vc_cut (fun st => (decide (t.c = 0) || !withinB t.c 1000000) = false ∧ At [(0, vTerms l), (6, V.i i)] [] st) ?_ ?_
      · refine vc_block_of ?_
        have hbad : (decide (t.c = 0) || !withinB t.c 1000000) = true → badCoefB l = true := fun e => any_of_at hil (by rw [← ht]; exact e)
        simp -dsimp [h, hil, vTerms, ← ht, Term.cells]
        refine gcall (coefR_spec t.c) (by simp -dsimp [h]) (by simp -dsimp [h]) ?_
        cases a : (decide (t.c = 0) || !withinB t.c 1000000)
        · simp -dsimp [h, At, a, vTerms]
        · simp -dsimp [h, a, hbad a, hallmarkref4_terms.rs]
      try clear h
      rintro ⟨sl, hp, bs⟩ ⟨hb, rfl, h⟩
      simp only [sls_cons, sls_one, sls_nil] at h
      have hx2 : badCoefB (l.take (i + 1)) = false := by
        unfold badCoefB at hx ⊢
        rw [anyTake1 hil, hx, ← ht, hb]; rfl
      simp -dsimp [h, At, hw, hil, vTerms, hx2]
    · have hil' : i = l.length := by omega
      subst hil'
      rw [List.take_length] at hx
      simp -dsimp [h, At, vTerms, hx]
  try clear h
  rintro ⟨sl, hp, bs⟩ ⟨hb, rfl, h⟩
  simp -dsimp [hallmarkref4_terms.rs, hb]

def oddB (k : Nat) (l : List (List Int)) : Bool := l.any fun r => decide (r.length ≠ k)
theorem rowsR_spec (c : Con) (hc : c.rows.length ≤ maxLen) : Pf Tryz.prog hallmarkref4_rows.id [.agg c.cells] (.bool (rowsR c)) := by
  have hM : (maxLen : Int) ≤ 9223372036854775807 := by decide
  refine DC.of hallmarkref4_rows.ok (by simp) ?_
  unfold hallmarkref4_rows.ir
  refine vc_cut (At [(1, .ptr 0 1 0 0)] [.mem false [] [c.cells]]) (by simp -dsimp [At, Con.cells, vTerms, vInts, vIntss]) ?_
  try clear h
  rintro ⟨sl, hp, bs⟩ ⟨rfl, h⟩
  simp only [sls_cons, sls_one, sls_nil] at h
  refine vc_cut (fun st => (decide (8 < c.xs.length) || manyB c.rows.length) = false ∧ At [(1, .ptr 0 1 0 0)] [.mem false [] [c.cells]] st) ?_ ?_
  · by_cases h8 : 8 < c.xs.length
    · have h8' : (8 : Int) < c.xs.length := by omega
      have hr : rowsR c = false := by simp [rowsR, h8]
      simp -dsimp [h, Con.cells, vTerms, vInts, vIntss, h8', hallmarkref4_rows.rs, hr]
    · have h8' : ¬ (8 : Int) < c.xs.length := by omega
      simp -dsimp [h, Con.cells, vTerms, vInts, vIntss, h8']
      refine gcall (manyR_spec c.rows.length) (by simp -dsimp [h]) (by simp -dsimp [h]) ?_
      cases a : manyB c.rows.length
      · simp -dsimp [h, At, h8, Con.cells, vTerms, vInts, vIntss]
      · have hr : rowsR c = false := by simp [rowsR, a]
        simp -dsimp [h, hr, hallmarkref4_rows.rs]
  try clear h
  rintro ⟨sl, hp, bs⟩ ⟨hb, rfl, h⟩
  simp only [sls_cons, sls_one, sls_nil] at h
  have hR : rowsR c = !(oddB c.xs.length c.rows) := by
    have e : ∀ l : List (List Int), (l.all fun r => decide (r.length = c.xs.length)) = !(oddB c.xs.length l) := fun l => by
      unfold oddB
      induction l with
      | nil => rfl
      | cons a l ih => rw [List.all_cons, List.any_cons, ih]; by_cases e : a.length = c.xs.length <;> simp [e]
    unfold rowsR; rw [hb, e]; rfl
  rw [hR]
  refine vc_cut (fun st => (oddB c.xs.length c.rows) = false ∧ At [] [.mem false [] [c.cells]] st) ?_ ?_
  · refine vc_cut (At [(1, .ptr 0 1 0 0), (3, V.i 0)] [.mem false [] [c.cells]]) (by simp -dsimp [h, At]) ?_
    try clear h
    rintro ⟨sl, hp, bs⟩ ⟨rfl, h⟩
    simp only [sls_cons, sls_one, sls_nil] at h
    refine vc_block_of (vc_upto 1 (by simp) c.rows.length (fun i st => oddB c.xs.length (c.rows.take i) = false ∧ At [(1, .ptr 0 1 0 0), (3, V.i i)] [.mem false [] [c.cells]] st) ⟨rfl, rfl, by simpa using h⟩ ?_)
    clear h
    rintro i ⟨sl, hp, bs⟩ hi ⟨hx, rfl, h⟩
    simp only [sls_cons, sls_one] at h
    unfold hallmarkref4_rows.b0
    by_cases hil : i < c.rows.length
    · have hw : IntKind.i64.wrap ((i : Int) + 1) = ((i + 1 : Nat) : Int) := by rw [wrap64] <;> omega
      refine vc_cut (At [(1, .ptr 0 1 0 0), (3, V.i i)] [.mem false [] [c.cells]]) (by simp -dsimp [h, At, hil, Con.cells, vTerms, vInts, vIntss]) ?_
      try clear h
      rintro ⟨sl, hp, bs⟩ ⟨rfl, h⟩
      simp only [sls_cons, sls_one, sls_nil] at h
      obtain ⟨t, ht⟩ : ∃ t, t = c.rows[i] := ⟨_, rfl⟩
      refine vc_cut (fun st => (decide (t.length ≠ c.xs.length)) = false ∧ At [(1, .ptr 0 1 0 0), (3, V.i i)] [.mem false [] [c.cells]] st) ?_ ?_
      · refine vc_block_of ?_
        have hbad : t.length ≠ c.xs.length → (oddB c.xs.length c.rows) = true := fun e => any_of_at hil (by rw [← ht]; simp [e])
        have ei : ((t.length : Int) = c.xs.length) ↔ t.length = c.xs.length := by omega
        by_cases a : t.length = c.xs.length
        · simp -dsimp [h, At, hil, ← ht, Con.cells, vTerms, vInts, vIntss, a, ei]
        · simp -dsimp [h, At, hil, ← ht, Con.cells, vTerms, vInts, vIntss, a, ei, hallmarkref4_rows.rs, hbad a]
      try clear h
      rintro ⟨sl, hp, bs⟩ ⟨hb, rfl, h⟩
      simp only [sls_cons, sls_one, sls_nil] at h
      have hx2 : oddB c.xs.length (c.rows.take (i + 1)) = false := by
        unfold oddB at hx ⊢; rw [anyTake1 hil, hx, ← ht, hb]; rfl
      simp -dsimp [h, At, hw, hil, hx2, Con.cells, vTerms, vInts, vIntss]
    · have hil' : i = c.rows.length := by omega
      subst hil'
      rw [List.take_length] at hx
      simp -dsimp [h, At, hx, Con.cells, vTerms, vInts, vIntss]
  try clear h
  rintro ⟨sl, hp, bs⟩ ⟨hb, rfl, h⟩
  simp -dsimp [hallmarkref4_rows.rs, hb]

theorem placesR_spec (c : Con) (n : Int) (hc : c.xs.length ≤ maxLen) : Pf Tryz.prog hallmarkref4_places.id [.agg c.cells, V.i n] (.bool (placesR c n)) := by
  have hM : (maxLen : Int) ≤ 9223372036854775807 := by decide
  refine DC.of hallmarkref4_places.ok (by simp) ?_
  unfold hallmarkref4_places.ir
  refine vc_cut (At [(1, V.i n), (2, .ptr 0 1 0 0)] [.mem false [] [c.cells]]) (by simp -dsimp [At, Con.cells, vTerms, vInts, vIntss]) ?_
  try clear h
  rintro ⟨sl, hp, bs⟩ ⟨rfl, h⟩
  simp only [sls_cons, sls_one, sls_nil] at h
  refine vc_cut (At [(1, V.i n), (2, .ptr 0 1 0 0), (5, .bool (placeR c.x n && placeR c.y n))] [.mem false [] [c.cells]]) ?_ ?_
  · simp -dsimp [h, Con.cells, vTerms, vInts, vIntss]
    refine gcall (placeR_spec c.x n) (by simp -dsimp [h]) (by simp -dsimp [h]) ?_
    cases a : placeR c.x n
    · simp -dsimp [h, At, Con.cells, vTerms, vInts, vIntss]
    · simp -dsimp [h, Con.cells, vTerms, vInts, vIntss]
      refine gcall (placeR_spec c.y n) (by simp -dsimp [h]) (by simp -dsimp [h]) ?_
      simp -dsimp [h, At, Con.cells, vTerms, vInts, vIntss]
  try clear h
  rintro ⟨sl, hp, bs⟩ ⟨rfl, h⟩
  simp only [sls_cons, sls_one, sls_nil] at h
  have hA : ∀ (b : Bool) (i : Nat) (hi : i < c.xs.length), (b && (c.xs.take (i + 1)).all fun x => placeR x n) = ((b && (c.xs.take i).all fun x => placeR x n) && placeR c.xs[i] n) := fun b i hi => by
    rw [List.take_succ_eq_append_getElem hi, List.all_append]; simp [Bool.and_assoc]
  refine vc_cut (At [(5, .bool (placesR c n))] [.mem false [] [c.cells]]) ?_ ?_
  · refine vc_cut (At [(1, V.i n), (2, .ptr 0 1 0 0), (5, .bool (placeR c.x n && placeR c.y n)), (6, V.i 0)] [.mem false [] [c.cells]]) (by simp -dsimp [h, At]) ?_
    try clear h
    rintro ⟨sl, hp, bs⟩ ⟨rfl, h⟩
    simp only [sls_cons, sls_one, sls_nil] at h
    refine vc_block_of (vc_upto 1 (by simp) c.xs.length (fun i st => At [(1, V.i n), (2, .ptr 0 1 0 0), (5, .bool ((placeR c.x n && placeR c.y n) && (c.xs.take i).all fun x => placeR x n)), (6, V.i i)] [.mem false [] [c.cells]] st) ⟨rfl, by simpa using h⟩ ?_)
    clear h
    rintro i ⟨sl, hp, bs⟩ hi ⟨rfl, h⟩
    simp only [sls_cons, sls_one] at h
    unfold hallmarkref4_places.b0
    by_cases hil : i < c.xs.length
    · have hw : IntKind.i64.wrap ((i : Int) + 1) = ((i + 1 : Nat) : Int) := by rw [wrap64] <;> omega
      rw [hA _ i hil]
      cases a : ((placeR c.x n && placeR c.y n) && (c.xs.take i).all fun x => placeR x n)
      · rw [a] at h
        simp -dsimp [h, At, hil, hw, Con.cells, vTerms, vInts, vIntss]
      · rw [a] at h
        simp -dsimp [h, hil, Con.cells, vTerms, vInts, vIntss]
        refine gcall (placeR_spec c.xs[i] n) (by simp -dsimp [h]) (by simp -dsimp [h]) ?_
        simp -dsimp [h, At, hil, hw, Con.cells, vTerms, vInts, vIntss]
    · have hil' : i = c.xs.length := by omega
      subst hil'
      rw [List.take_length] at h
      simp -dsimp [h, At, placesR, Con.cells, vTerms, vInts, vIntss]
  try clear h
  rintro ⟨sl, hp, bs⟩ ⟨rfl, h⟩
  simp only [sls_cons, sls_one, sls_nil] at h
  simp -dsimp [h, hallmarkref4_places.rs]
end Go.Abs.G


namespace Go.Abs.G
open Go.Proofs
set_option linter.unusedVariables false
set_option linter.unusedSimpArgs false

theorem any_greatB_bad {l : List Int} {i : Nat} (h : i < l.length) (hb : withinB l[i] 1000000000 = false) : greatB l = true := any_of_at h (by rw [hb]; rfl)

theorem conR0_spec (c : Con) (n : Int) (hc : okCon c) : Pf Tryz.prog hallmarkref4_Con.id [.agg c.cells, V.i n] (V.i (conR c n)) := by
  have hM : (maxLen : Int) ≤ 9223372036854775807 := by decide
  obtain ⟨_, _, ht, _, _, _, _, hx, hb, hr, hrr⟩ := hc
  replace ht := ht.1
  replace hx := hx.1
  replace hb := hb.1
  refine DC.of hallmarkref4_Con.ok (by simp) ?_
  unfold hallmarkref4_Con.ir
  refine vc_cut (At [(1, V.i n), (2, .ptr 0 1 0 0)] [.mem false [] [c.cells]]) (by simp -dsimp [At, Con.cells, vTerms, vInts, vIntss]) ?_
  try clear h
  rintro ⟨sl, hp, bs⟩ ⟨rfl, h⟩
  simp only [sls_cons, sls_one, sls_nil] at h
  -- the kind
  obtain ⟨A, hA⟩ : ∃ A, A = (decide (c.kind < 1) || decide (9 < c.kind) || ((decide (c.kind = 1) || decide (c.kind = 9)) && (decide (c.op < 1) || decide (3 < c.op)))) := ⟨_, rfl⟩
  refine vc_cut (fun st => A = false ∧ At [(1, V.i n), (2, .ptr 0 1 0 0)] [.mem false [] [c.cells]] st) ?_ ?_
  · refine vc_cut (At [(1, V.i n), (2, .ptr 0 1 0 0), (37, .bool A)] [.mem false [] [c.cells]]) ?_ ?_
    · by_cases k1 : c.kind < 1
      · simp -dsimp [h, At, k1, hA, Con.cells, vTerms, vInts, vIntss]
      · by_cases k9 : 9 < c.kind
        · simp -dsimp [h, At, k1, k9, hA, Con.cells, vTerms, vInts, vIntss]
        · by_cases e1 : c.kind = 1
          · by_cases o1 : c.op < 1
            · simp -dsimp [h, At, e1, o1, hA, Con.cells, vTerms, vInts, vIntss]
            · simp -dsimp [h, At, e1, o1, hA, Con.cells, vTerms, vInts, vIntss]
          · by_cases e9 : c.kind = 9
            · by_cases o1 : c.op < 1
              · simp -dsimp [h, At, e9, o1, hA, Con.cells, vTerms, vInts, vIntss]
              · simp -dsimp [h, At, e9, o1, hA, Con.cells, vTerms, vInts, vIntss]
            · simp -dsimp [h, At, e1, e9, k1, k9, hA, Con.cells, vTerms, vInts, vIntss]
    try clear h
    rintro ⟨sl, hp, bs⟩ ⟨rfl, h⟩
    simp only [sls_cons, sls_one, sls_nil] at h
    cases hAA : A
    · rw [hAA] at h
      simp -dsimp [h, At]
    · rw [hAA] at h
      have hC : conR c n = 43 := by unfold conR; rw [← hA, hAA]; rfl
      simp -dsimp [h, hC, hallmarkref4_Con.rs]
  try clear h
  rintro ⟨sl, hp, bs⟩ ⟨hAA, rfl, h⟩
  simp only [sls_cons, sls_one, sls_nil] at h
  unfold conR
  rw [← hA, hAA, if_neg (by simp)]
  -- fields that the kind hasn't
  refine vc_cut (fun st => foreignB c = false ∧ At [(1, V.i n), (2, .ptr 0 1 0 0)] [.mem false [] [c.cells]] st) ?_ ?_
  · simp -dsimp [h, Con.cells, vTerms, vInts, vIntss]
    refine gcall (foreignR_spec c) (by simp -dsimp [h, Con.cells, vTerms, vInts, vIntss]) (by simp -dsimp [h, Con.cells, vTerms, vInts, vIntss]) ?_
    cases a : foreignB c
    · simp -dsimp [h, At, Con.cells, vTerms, vInts, vIntss]
    · simp -dsimp [h, hallmarkref4_Con.rs]
  try clear h
  rintro ⟨sl, hp, bs⟩ ⟨hB, rfl, h⟩
  simp only [sls_cons, sls_one, sls_nil] at h
  rw [if_neg (by simp [hB])]
  refine vc_cut (At [(1, V.i n), (2, .ptr 0 1 0 0), (5, .bool (foS c))] [.mem false [] [c.cells]]) ?_ ?_
  · by_cases k : c.kind = 1
    · simp -dsimp [h, At, k, foS, Con.cells, vTerms, vInts, vIntss]
    · simp -dsimp [h, At, k, foS, Bool.beq_eq_decide_eq, Con.cells, vTerms, vInts, vIntss]
  try clear h
  rintro ⟨sl, hp, bs⟩ ⟨rfl, h⟩
  simp only [sls_cons, sls_one, sls_nil] at h
  -- too many
  obtain ⟨M1, hM1⟩ : ∃ M1, M1 = (foS c && manyB c.terms.length) := ⟨_, rfl⟩
  obtain ⟨M2, hM2⟩ : ∃ M2, M2 = (M1 || (listsB c.kind && manyB c.xs.length)) := ⟨_, rfl⟩
  obtain ⟨M3, hM3⟩ : ∃ M3, M3 = (M2 || (decide (c.kind = 4) && manyB c.table.length)) := ⟨_, rfl⟩
  obtain ⟨M4, hM4⟩ : ∃ M4, M4 = (M3 || (decide (c.kind = 8) && !rowsR c)) := ⟨_, rfl⟩
  have hMM : (((decide (c.kind = 1) || decide (c.kind = 7)) && manyB c.terms.length) || (listsB c.kind && manyB c.xs.length) || (decide (c.kind = 4) && manyB c.table.length) || (decide (c.kind = 8) && !rowsR c)) = M4 := by rw [hM4, hM3, hM2, hM1]; rfl
  rw [hMM]
  refine vc_cut (fun st => M4 = false ∧ At [(1, V.i n), (2, .ptr 0 1 0 0)] [.mem false [] [c.cells]] st) ?_ ?_
  · refine vc_cut (At [(1, V.i n), (2, .ptr 0 1 0 0), (86, .bool M4)] [.mem false [] [c.cells]]) ?_ ?_
    · refine vc_reg_of (vcIts_cut 8 (At [(1, V.i n), (2, .ptr 0 1 0 0), (55, .bool M1)] [.mem false [] [c.cells]]) ?_ ?_)
      · obtain ⟨S, hS⟩ : ∃ S, S = foS c := ⟨_, rfl⟩
        rw [← hS] at h hM1
        cases S
        · simp -dsimp [h, At, hM1]
        · simp -dsimp [h, Con.cells, vTerms, vInts, vIntss]
          refine gcall (manyR_spec c.terms.length) (by simp -dsimp [h]) (by simp -dsimp [h]) ?_
          simp -dsimp [h, At, hM1, Con.cells, vTerms, vInts, vIntss]
      try clear h
      rintro ⟨sl, hp, bs⟩ ⟨rfl, h⟩
      simp only [sls_cons, sls_one, sls_nil] at h
      refine vcIts_cut 11 (At [(1, V.i n), (2, .ptr 0 1 0 0), (66, .bool M2)] [.mem false [] [c.cells]]) ?_ ?_
      · cases M1
        · simp -dsimp [h, Con.cells, vTerms, vInts, vIntss]
          refine gcall (listsR_spec c.kind) (by simp -dsimp [h]) (by simp -dsimp [h]) ?_
          cases b : listsB c.kind
          · simp -dsimp [h, At, hM2, b, Con.cells, vTerms, vInts, vIntss]
          · simp -dsimp [h, b, Con.cells, vTerms, vInts, vIntss]
            refine gcall (manyR_spec c.xs.length) (by simp -dsimp [h]) (by simp -dsimp [h]) ?_
            simp -dsimp [h, At, hM2, b, Con.cells, vTerms, vInts, vIntss]
        · simp -dsimp [h, At, hM2]
      try clear h
      rintro ⟨sl, hp, bs⟩ ⟨rfl, h⟩
      simp only [sls_cons, sls_one, sls_nil] at h
      refine vcIts_cut 11 (At [(1, V.i n), (2, .ptr 0 1 0 0), (77, .bool M3)] [.mem false [] [c.cells]]) ?_ ?_
      · cases M2
        · by_cases k4 : c.kind = 4
          · simp -dsimp [h, k4, Con.cells, vTerms, vInts, vIntss]
            refine gcall (manyR_spec c.table.length) (by simp -dsimp [h]) (by simp -dsimp [h]) ?_
            simp -dsimp [h, At, hM3, k4, Con.cells, vTerms, vInts, vIntss]
          · simp -dsimp [h, At, hM3, k4, Con.cells, vTerms, vInts, vIntss]
        · simp -dsimp [h, At, hM3]
      try clear h
      rintro ⟨sl, hp, bs⟩ ⟨rfl, h⟩
      simp only [sls_cons, sls_one, sls_nil] at h
      cases M3
      · by_cases k8 : c.kind = 8
        · have hcc : c.cells = [V.i 8, V.i c.op, vTerms c.terms, V.i c.k, V.i c.v, V.i c.x, V.i c.y, vInts c.xs, vInts c.table, vIntss c.rows] := by rw [← k8]; rfl
          simp -dsimp [h, Con.cells, k8, vTerms, vInts, vIntss]
          refine gcall (rowsR_spec c hr) (by simp -dsimp [h, Con.cells, k8, vTerms, vInts, vIntss]) (by simp -dsimp [h, Con.cells, vTerms, vInts, vIntss]) ?_
          simp -dsimp [h, At, hM4, k8, Con.cells, vTerms, vInts, vIntss]
        · simp -dsimp [h, At, hM4, k8, Con.cells, vTerms, vInts, vIntss]
      · simp -dsimp [h, At, hM4]
    try clear h
    rintro ⟨sl, hp, bs⟩ ⟨rfl, h⟩
    simp only [sls_cons, sls_one, sls_nil] at h
    cases hAA : M4
    · rw [hAA] at h
      simp -dsimp [h, At]
    · rw [hAA] at h
      simp -dsimp [h, hallmarkref4_Con.rs]
  try clear h
  rintro ⟨sl, hp, bs⟩ ⟨hM4', rfl, h⟩
  simp only [sls_cons, sls_one, sls_nil] at h
  rw [hM4', if_neg (by simp)]
  refine vc_cut (At [(1, V.i n), (2, .ptr 0 1 0 0), (6, V.i (termsR c.terms n))] [.mem false [] [c.cells]]) ?_ ?_
  · simp -dsimp [h, Con.cells, vTerms, vInts, vIntss]
    refine gcall (termsR_spec c.terms n ht) (by simp -dsimp [h, vTerms]) (by simp -dsimp [h, vTerms]) ?_
    simp -dsimp [h, At, Con.cells, vTerms, vInts, vIntss]
  try clear h
  rintro ⟨sl, hp, bs⟩ ⟨rfl, h⟩
  simp only [sls_cons, sls_one, sls_nil] at h
  obtain ⟨T, hT⟩ : ∃ T, T = termsR c.terms n := ⟨_, rfl⟩
  rw [← hT] at h ⊢
  refine vc_cut (fun st => (!placesR c n || decide (T = 44)) = false ∧ At [(2, .ptr 0 1 0 0), (6, V.i T)] [.mem false [] [c.cells]] st) ?_ ?_
  · simp -dsimp [h, Con.cells, vTerms, vInts, vIntss]
    refine gcall (placesR_spec c n hx) (by simp -dsimp [h, Con.cells, vTerms, vInts, vIntss]) (by simp -dsimp [h, Con.cells, vTerms, vInts, vIntss]) ?_
    cases a : placesR c n
    · simp -dsimp [h, hallmarkref4_Con.rs]
    · by_cases e : T = 44
      · simp -dsimp [h, e, hallmarkref4_Con.rs]
      · simp -dsimp [h, At, e, Con.cells, vTerms, vInts, vIntss]
  try clear h
  rintro ⟨sl, hp, bs⟩ ⟨hP, rfl, h⟩
  simp only [sls_cons, sls_one, sls_nil] at h
  rw [hP, if_neg (by simp)]
  refine vc_cut (fun st => T = 0 ∧ At [(2, .ptr 0 1 0 0)] [.mem false [] [c.cells]] st) ?_ ?_
  · by_cases e : T = 0
    · simp -dsimp [h, At, e]
    · simp -dsimp [h, e, hallmarkref4_Con.rs]
  try clear h
  rintro ⟨sl, hp, bs⟩ ⟨hT0, rfl, h⟩
  simp only [sls_cons, sls_one, sls_nil] at h
  rw [if_neg (by simp [hT0])]
  refine vc_cut (fun st => (!withinB c.k 1000000000 || !withinB c.v 1000000000) = false ∧ At [(2, .ptr 0 1 0 0)] [.mem false [] [c.cells]] st) ?_ ?_
  · simp -dsimp [h, Con.cells, vTerms, vInts, vIntss]
    refine gcall (numberR_spec c.k) (by simp -dsimp [h]) (by simp -dsimp [h]) ?_
    cases a : withinB c.k 1000000000
    · simp -dsimp [h, hallmarkref4_Con.rs]
    · simp -dsimp [h]
      refine gcall (numberR_spec c.v) (by simp -dsimp [h]) (by simp -dsimp [h]) ?_
      cases b : withinB c.v 1000000000
      · simp -dsimp [h, hallmarkref4_Con.rs]
      · simp -dsimp [h, At, Con.cells, vTerms, vInts, vIntss]
  try clear h
  rintro ⟨sl, hp, bs⟩ ⟨hK, rfl, h⟩
  simp only [sls_cons, sls_one, sls_nil] at h
  rw [hK, if_neg (by simp)]
  -- numbers of rows
  have hM9 := hM
  refine vc_cut (fun st => c.rows.any greatB = false ∧ At [(2, .ptr 0 1 0 0)] [.mem false [] [c.cells]] st) ?_ ?_
  · refine vc_cut (At [(2, .ptr 0 1 0 0), (7, V.i 0)] [.mem false [] [c.cells]]) (by simp -dsimp [h, At]) ?_
    try clear h
    rintro ⟨sl, hp, bs⟩ ⟨rfl, h⟩
    simp only [sls_cons, sls_one, sls_nil] at h
    refine vc_block_of (vc_upto 1 (by simp) c.rows.length (fun i st => (c.rows.take i).any greatB = false ∧ At [(2, .ptr 0 1 0 0), (7, V.i i)] [.mem false [] [c.cells]] st) ⟨rfl, rfl, by simpa using h⟩ ?_)
    clear h
    rintro i ⟨sl, hp, bs⟩ hi ⟨hx, rfl, h⟩
    simp only [sls_cons, sls_one] at h
    unfold hallmarkref4_Con.b0
    by_cases hil : i < c.rows.length
    · have hw : IntKind.i64.wrap ((i : Int) + 1) = ((i + 1 : Nat) : Int) := by rw [wrap64] <;> omega
      refine vc_cut (At [(2, .ptr 0 1 0 0), (7, V.i i)] [.mem false [] [c.cells]]) (by simp -dsimp [h, At, hil, Con.cells, vTerms, vInts, vIntss]) ?_
      try clear h
      rintro ⟨sl, hp, bs⟩ ⟨rfl, h⟩
      simp only [sls_cons, sls_one, sls_nil] at h
      obtain ⟨t, ht'⟩ : ∃ t, t = c.rows[i] := ⟨_, rfl⟩
      have hlt : t.length ≤ maxLen := by rw [ht']; exact (hrr _ (List.getElem_mem hil)).1
      refine vc_cut (fun st => greatB t = false ∧ At [(2, .ptr 0 1 0 0), (7, V.i i)] [.mem false [] [c.cells]] st) ?_ ?_
      · refine vc_block_of ?_
        refine vc_cut (At [(2, .ptr 0 1 0 0), (7, V.i i), (8, V.i 0)] [.mem false [] [c.cells]]) (by simp -dsimp [h, At]) ?_
        try clear h
        rintro ⟨sl, hp, bs⟩ ⟨rfl, h⟩
        simp only [sls_cons, sls_one, sls_nil] at h
        refine vc_block_of (vc_upto 1 (by simp) t.length (fun j st => greatB (t.take j) = false ∧ At [(2, .ptr 0 1 0 0), (7, V.i i), (8, V.i j)] [.mem false [] [c.cells]] st) ⟨rfl, rfl, by simpa using h⟩ ?_)
        clear h
        rintro j ⟨sl, hp, bs⟩ hj ⟨hg, rfl, h⟩
        simp only [sls_cons, sls_one] at h
        unfold hallmarkref4_Con.b1
        by_cases hjl : j < t.length
        · have hw : IntKind.i64.wrap ((j : Int) + 1) = ((j + 1 : Nat) : Int) := by rw [wrap64] <;> omega
          refine vc_cut (At [(2, .ptr 0 1 0 0), (7, V.i i), (8, V.i j)] [.mem false [] [c.cells]]) (by simp -dsimp [h, At, hil, hjl, ← ht', Con.cells, vTerms, vInts, vIntss]) ?_
          try clear h
          rintro ⟨sl, hp, bs⟩ ⟨rfl, h⟩
          simp only [sls_cons, sls_one, sls_nil] at h
          refine vc_cut (fun st => withinB t[j] 1000000000 = true ∧ At [(2, .ptr 0 1 0 0), (7, V.i i), (8, V.i j)] [.mem false [] [c.cells]] st) ?_ ?_
          · refine vc_block_of ?_
            simp -dsimp [h, hil, hjl, ← ht', Con.cells, vTerms, vInts, vIntss]
            refine gcall (numberR_spec t[j]) (by simp -dsimp [h]) (by simp -dsimp [h]) ?_
            cases a : withinB t[j] 1000000000
            · have hbad : c.rows.any greatB = true := any_of_at hil (by rw [← ht']; exact any_greatB_bad hjl a)
              simp -dsimp [h, hbad, hallmarkref4_Con.rs]
            · simp -dsimp [h, At, Con.cells, vTerms, vInts, vIntss]
          try clear h
          rintro ⟨sl, hp, bs⟩ ⟨hb, rfl, h⟩
          simp only [sls_cons, sls_one, sls_nil] at h
          have hx2 : greatB (t.take (j + 1)) = false := by
            unfold greatB at hg ⊢
            rw [anyTake1 hjl, hg, hb]; rfl
          simp -dsimp [h, At, hw, hjl, hx2, Con.cells, vTerms, vInts, vIntss]
        · have hjl' : j = t.length := by omega
          subst hjl'
          rw [List.take_length] at hg
          simp -dsimp [h, At, hg, hil, ← ht', Con.cells, vTerms, vInts, vIntss]
      try clear h
      rintro ⟨sl, hp, bs⟩ ⟨hb, rfl, h⟩
      simp only [sls_cons, sls_one, sls_nil] at h
      have hx2 : (c.rows.take (i + 1)).any greatB = false := by
        rw [anyTake1 hil, hx, ← ht', hb]; rfl
      rw [hx2]
      simp -dsimp [h, At, hw, hil, Con.cells, vTerms, vInts, vIntss]
    · have hil' : i = c.rows.length := by omega
      subst hil'
      rw [List.take_length] at hx
      rw [hx]
      simp -dsimp [h, At, Con.cells, vTerms, vInts, vIntss]
  try clear h
  rintro ⟨sl, hp, bs⟩ ⟨hR, rfl, h⟩
  simp only [sls_cons, sls_one, sls_nil] at h
  rw [hR, if_neg (by simp)]
  refine vc_cut (fun st => greatB c.table = false ∧ At [] [.mem false [] [c.cells]] st) ?_ ?_
  · refine vc_cut (At [(2, .ptr 0 1 0 0), (9, V.i 0)] [.mem false [] [c.cells]]) (by simp -dsimp [h, At]) ?_
    try clear h
    rintro ⟨sl, hp, bs⟩ ⟨rfl, h⟩
    simp only [sls_cons, sls_one, sls_nil] at h
    refine vc_block_of (vc_upto 1 (by simp) c.table.length (fun j st => greatB (c.table.take j) = false ∧ At [(2, .ptr 0 1 0 0), (9, V.i j)] [.mem false [] [c.cells]] st) ⟨rfl, rfl, by simpa using h⟩ ?_)
    clear h
    rintro j ⟨sl, hp, bs⟩ hj ⟨hg, rfl, h⟩
    simp only [sls_cons, sls_one] at h
    unfold hallmarkref4_Con.b2
    by_cases hjl : j < c.table.length
    · have hw : IntKind.i64.wrap ((j : Int) + 1) = ((j + 1 : Nat) : Int) := by rw [wrap64] <;> omega
      refine vc_cut (At [(2, .ptr 0 1 0 0), (9, V.i j)] [.mem false [] [c.cells]]) (by simp -dsimp [h, At, hjl, Con.cells, vTerms, vInts, vIntss]) ?_
      try clear h
      rintro ⟨sl, hp, bs⟩ ⟨rfl, h⟩
      simp only [sls_cons, sls_one, sls_nil] at h
      refine vc_cut (fun st => withinB c.table[j] 1000000000 = true ∧ At [(2, .ptr 0 1 0 0), (9, V.i j)] [.mem false [] [c.cells]] st) ?_ ?_
      · refine vc_block_of ?_
        simp -dsimp [h, hjl, Con.cells, vTerms, vInts, vIntss]
        refine gcall (numberR_spec c.table[j]) (by simp -dsimp [h]) (by simp -dsimp [h]) ?_
        cases a : withinB c.table[j] 1000000000
        · have hbad : greatB c.table = true := any_greatB_bad hjl a
          simp -dsimp [h, hbad, hallmarkref4_Con.rs]
        · simp -dsimp [h, At, Con.cells, vTerms, vInts, vIntss]
      try clear h
      rintro ⟨sl, hp, bs⟩ ⟨hb, rfl, h⟩
      simp only [sls_cons, sls_one, sls_nil] at h
      have hx2 : greatB (c.table.take (j + 1)) = false := by
        unfold greatB at hg ⊢
        rw [anyTake1 hjl, hg, hb]; rfl
      simp -dsimp [h, At, hw, hjl, hx2, Con.cells, vTerms, vInts, vIntss]
    · have hjl' : j = c.table.length := by omega
      subst hjl'
      rw [List.take_length] at hg
      simp -dsimp [h, At, hg, Con.cells, vTerms, vInts, vIntss]
  try clear h
  rintro ⟨sl, hp, bs⟩ ⟨hR, rfl, h⟩
  simp -dsimp [hallmarkref4_Con.rs, hR]
end Go.Abs.G


namespace Go.Abs.G
open Go.Proofs
set_option linter.unusedVariables false
set_option linter.unusedSimpArgs false

end Go.Abs.G


namespace Go.Abs.G
open Go.Proofs
set_option linter.unusedVariables false
set_option linter.unusedSimpArgs false

end Go.Abs.G


namespace Go.Abs.G
open Go.Proofs
set_option linter.unusedVariables false
set_option linter.unusedSimpArgs false

def runR (lo : Int) (n : Nat) : List Int := (List.range n).map fun (i : Nat) => lo + (i : Int)
@[simp] theorem runR_len (lo : Int) (n : Nat) : (runR lo n).length = n := by simp [runR]
end Go.Abs.G


namespace Go.Abs.G
open Go.Proofs
set_option linter.unusedVariables false
set_option linter.unusedSimpArgs false

@[simp ↓ high] theorem St1_tree (s : List Dom) (T : List (List Ce)) : (St1 s T).isTree = true := rfl
@[simp ↓ high] theorem St1_trows (s : List Dom) (T : List (List Ce)) : (St1 s T).trows = 1 := rfl
@[simp ↓ high] theorem St1_isMem (s : List Dom) (T : List (List Ce)) : (St1 s T).isMem = false := rfl
@[simp ↓ high] theorem St1_refs (s : List Dom) (T : List (List Ce)) : (St1 s T).refs = [] := rfl
@[simp ↓ high] theorem St1_lim' (n : Nat) (s : List Dom) (T : List (List Ce)) : limO n (St1 s T) = St1 s T := St1_lim n s T
@[simp ↓ high] theorem St1_ren (f : Nat → Nat) (s : List Dom) (ms : List (List Dom)) : O.ren f (St1 s (mT ms)) = St1 s (mT ms) := by
  simp [St1, O.ren, Ce.renR, Ce.renL, Ce.ren, domCe_ren, mT_ren]
@[simp] theorem St1_clo (s : List Dom) (ms : List (List Dom)) : (St1 s (mT ms)).clo := ⟨rfl, fun f => St1_ren f s ms, fun e => by cases e⟩

end Go.Abs.G


namespace Go.Abs.G
open Go.Proofs
set_option linter.unusedVariables false
set_option linter.unusedSimpArgs false

structure DOp where
  kind : Int
  ck : Int
  cx : Int
  cv : Int
  n : Int
structure DCut where
  k : Int
  x : Int
  v : Int
def DOp.cells (o : DOp) : List V := [V.i o.kind, V.i o.ck, V.i o.cx, V.i o.cv, V.i o.n]
def DCut.cells (c : DCut) : List V := [V.i c.k, V.i c.x, V.i c.v]
structure SG (s : List Dom) (ms : List (List Dom)) : Prop extends SOk s ms where
  L : ∀ L ∈ ms, L.length ≤ 64 ∧ ∀ d ∈ L, d.ok

theorem cutS_cases (s : List Dom) (k x v : Int) : (cutS s k x v).1 = s ∨ ∃ d, s[x.toNat]? = some d ∧ (cutS s k x v).1 = s.set x.toNat (cutTo k v d d.width) := by
  unfold cutS
  split
  · split
    · next d e => split
                  · exact .inl rfl
                  · exact .inr ⟨d, e, rfl⟩
    · exact .inl rfl
  · exact .inl rfl
theorem cutS_len (s : List Dom) (k x v : Int) : (cutS s k x v).1.length = s.length := by
  rcases cutS_cases s k x v with e | ⟨d, _, e⟩ <;> rw [e]; simp
theorem cutS_ok {s : List Dom} (k x v : Int) (h : ∀ d ∈ s, d.ok) : ∀ d ∈ (cutS s k x v).1, d.ok := by
  rcases cutS_cases s k x v with e | ⟨d, hd, e⟩ <;> rw [e]
  · exact h
  · intro d' hd'
    rcases List.mem_or_eq_of_mem_set hd' with h' | rfl
    · exact h d' h'
    · exact cutTo_ok k v (h d (List.mem_of_getElem? hd)) _
theorem SG.cut {s : List Dom} {ms : List (List Dom)} (h : SG s ms) (k x v : Int) : SG (cutS s k x v).1 ms :=
  ⟨⟨by rw [cutS_len]; exact h.n, h.k, cutS_ok k x v h.d⟩, h.L⟩

end Go.Abs.G


namespace Go.Abs.G
open Go.Proofs
set_option linter.unusedVariables false
set_option linter.unusedSimpArgs false

theorem drop_has {d : Dom} (h : d.ok) {k i : Nat} (hk : k < 64) (hi : i < 64) : (d.drop k).has i = (d.has i && !decide (i = k)) := by
  unfold Dom.drop Dom.has
  by_cases h1 : k < 32
  · rw [if_pos h1]
    by_cases h2 : i < 32
    · simp only [h2, if_true]; exact clr_bit h.a h1 i
    · simp only [h2, if_false]
      have : i ≠ k := by omega
      simp [this]
  · rw [if_neg h1]
    by_cases h2 : i < 32
    · simp only [h2, if_true]
      have : i ≠ k := by omega
      simp [this]
    · simp only [h2, if_false]
      rw [clr_bit h.b (by omega)]
      have : (i - 32 = k - 32) ↔ i = k := by omega
      simp [this]

theorem cutTo_has (k v : Int) {d : Dom} (h : d.ok) : ∀ n, n ≤ 64 → ∀ i, i < 64 → (cutTo k v d n).has i = (d.has i && !(decide (i < n) && goesB k v (d.from' + i))) := by
  intro n
  induction n with
  | zero => intro _ i _; simp [cutTo]
  | succ n ih =>
    intro hn i hi
    have ih := ih (by omega) i hi
    unfold cutTo
    have hin : i < n + 1 ↔ (i < n ∨ i = n) := by omega
    split
    · next hg =>
      rw [drop_has (cutTo_ok k v h n) (by omega) hi, ih]
      by_cases hi2 : i = n
      · subst hi2; simp [hg]
      · have : decide (i < n + 1) = decide (i < n) := by simp; omega
        simp [hi2, this]
    · next hg =>
      rw [ih]
      by_cases hi2 : i = n
      · subst hi2
        have : goesB k v (d.from' + i) = false := by simpa using hg
        simp [this]
      · have : decide (i < n + 1) = decide (i < n) := by simp; omega
        rw [this]

def NE (s : List Dom) : Prop := ∀ d ∈ s, d.none = false
theorem NE.cut {s : List Dom} (h : NE s) (k x v : Int) : NE (cutS s k x v).1 := by
  unfold cutS
  split
  · split
    · next d e =>
      split
      · exact h
      · next hn =>
        intro d' hd'
        rcases List.mem_or_eq_of_mem_set hd' with h' | rfl
        · exact h d' h'
        · simpa using hn
    · exact h
  · exact h
theorem add_has {d : Dom} (h : d.ok) {k i : Nat} (hk : k < 64) (hi : i < 64) : (d.add k).has i = (d.has i || decide (i = k)) := by
  unfold Dom.add Dom.has
  by_cases h1 : k < 32
  · rw [if_pos h1]
    by_cases h2 : i < 32
    · simp only [h2, if_true]; exact sett_bit h.a h1 i
    · simp only [h2, if_false]
      have : i ≠ k := by omega
      simp [this]
  · rw [if_neg h1]
    by_cases h2 : i < 32
    · simp only [h2, if_true]
      have : i ≠ k := by omega
      simp [this]
    · simp only [h2, if_false]
      rw [sett_bit h.b (by omega)]
      have : (i - 32 = k - 32) ↔ i = k := by omega
      simp [this]
theorem fillTo_has {d : Dom} (h : d.ok) : ∀ n, n ≤ 64 → ∀ i, i < 64 → (fillTo d n).has i = (d.has i || decide (i < n)) := by
  intro n
  induction n with
  | zero => intro _ i _; simp [fillTo]
  | succ n ih =>
    intro hn i hi
    have ih := ih (by omega) i hi
    unfold fillTo
    rw [add_has (fillTo_ok h n) (by omega) hi, ih]
    by_cases h1 : i = n
    · subst h1; simp
    · have : decide (i < n + 1) = decide (i < n) := by simp; omega
      simp [h1, this]
theorem domOf_width (v : Var) : (domOf v).width = (v.hi - v.lo + 1).toNat := fillTo_width _ _
theorem domOf_has {v : Var} (h : VarOk v) {i : Nat} (hi : i < (domOf v).width) : (domOf v).has i = true := by
  have hok := dom0_ok h
  have hw := hok.w
  rw [domOf_width] at hi
  have hi' : i < (dom0 v).width := hi
  unfold domOf
  rw [fillTo_has hok _ hw i (by omega)]
  simp [hi']
theorem none_of_has {d : Dom} {i : Nat} (h : d.has i = true) : d.none = false := by
  unfold Dom.none
  unfold Dom.has at h
  split at h
  · have : d.a ≠ 0 := fun e => by rw [e] at h; simp at h
    simp [this]
  · have : d.b ≠ 0 := fun e => by rw [e] at h; simp at h
    simp [this]

theorem vals_eq {d d' : Dom} (hf : d'.from' = d.from') (hw : d'.width = d.width) (hh : ∀ i, i < d.width → d'.has i = d.has i) : d'.vals d'.width = d.vals d.width := by
  unfold Dom.vals
  rw [hw, hf]
  congr 1
  refine List.filter_congr fun i hi => ?_
  exact hh i (List.mem_range.1 hi)

end Go.Abs.G


/- What the reference's store tells is what the store tells. -/
namespace Go.Abs.G
set_option linter.unusedVariables false
set_option linter.unusedSimpArgs false

structure DG (x : Dom) : Prop where
  ok : x.ok
  full : ∀ i, i < 64 → x.width ≤ i → x.has i = false
  ne : x.none = false
def refD (s : List Dom) : List (List Int) := s.map fun x => x.vals x.width

theorem refD_len (s : List Dom) : (refD s).length = s.length := by simp [refD]
theorem is_ref (s : List Dom) (x : Int) : isR (refD s) x = isB s x := by simp [isR, isB, refD_len]
theorem row_ref (s : List Dom) (x : Int) : rowR (refD s) x = valsB s x := by
  unfold rowR valsB
  rw [is_ref]
  by_cases h : isB s x = true
  · rw [if_pos h, if_pos h]; simp [refD, List.getElem?_map]
  · rw [if_neg h, if_neg h]
theorem mem_vals {x : Dom} {v : Int} : v ∈ x.vals x.width ↔ ∃ i : Nat, i < x.width ∧ x.has i = true ∧ v = x.from' + i := by
  simp only [Dom.vals, List.mem_map, List.mem_filter, List.mem_range]
  constructor
  · rintro ⟨i, ⟨a, b⟩, c⟩; exact ⟨i, a, b, c.symm⟩
  · rintro ⟨i, a, b, c⟩; exact ⟨i, ⟨a, b⟩, c.symm⟩
end Go.Abs.G


namespace Go.Abs.G
set_option linter.unusedVariables false
set_option linter.unusedSimpArgs false

theorem none_has {d : Dom} (h : d.none = true) (i : Nat) : d.has i = false := by
  simp [Dom.none] at h
  unfold Dom.has
  rw [h.1, h.2]
  split <;> simp
theorem has_eq {d e : Dom} (hd : d.ok) (he : e.ok) (h : ∀ i, i < 64 → d.has i = e.has i) : d.a = e.a ∧ d.b = e.b := by
  constructor
  · refine Nat.eq_of_testBit_eq fun i => ?_
    by_cases hi : i < 32
    · have := h i (by omega); simpa [Dom.has, hi] using this
    · rw [Nat.testBit_lt_two_pow (Nat.lt_of_lt_of_le (show d.a < 2 ^ 32 from hd.a) (Nat.pow_le_pow_right (by omega) (by omega : 32 ≤ i))), Nat.testBit_lt_two_pow (Nat.lt_of_lt_of_le (show e.a < 2 ^ 32 from he.a) (Nat.pow_le_pow_right (by omega) (by omega : 32 ≤ i)))]
  · refine Nat.eq_of_testBit_eq fun i => ?_
    by_cases hi : i < 32
    · have := h (32 + i) (by omega); have h2 : ¬ 32 + i < 32 := by omega
      simpa [Dom.has, h2] using this
    · rw [Nat.testBit_lt_two_pow (Nat.lt_of_lt_of_le (show d.b < 2 ^ 32 from hd.b) (Nat.pow_le_pow_right (by omega) (by omega : 32 ≤ i))), Nat.testBit_lt_two_pow (Nat.lt_of_lt_of_le (show e.b < 2 ^ 32 from he.b) (Nat.pow_le_pow_right (by omega) (by omega : 32 ≤ i)))]

section
variable {d : Dom} (h : DG d) (k v : Int)
include h
theorem cut_has (i : Nat) (hi : i < 64) : (cutTo k v d d.width).has i = (d.has i && !(decide (i < d.width) && goesB k v (d.from' + i))) := cutTo_has k v h.ok d.width h.ok.w i hi
theorem cut_vals : (cutTo k v d d.width).vals (cutTo k v d d.width).width = leftR k v (d.vals d.width) := by
  have hw := h.ok.w
  rw [cutTo_width]
  unfold Dom.vals leftR
  rw [List.filter_map, List.filter_filter, cutTo_from]
  congr 1
  refine List.filter_congr fun i hi => ?_
  have hi : i < d.width := by simpa using hi
  rw [cut_has h k v i (by omega)]
  simp [hi, Function.comp, Bool.and_comm]
theorem cut_none : (cutTo k v d d.width).none = decide (leftR k v (d.vals d.width) = []) := by
  have hw := h.ok.w
  have hok := cutTo_ok k v h.ok d.width
  rw [← cut_vals h k v, Bool.eq_iff_iff, decide_eq_true_eq]
  constructor
  · intro hn
    refine List.eq_nil_iff_forall_not_mem.2 fun u hu => ?_
    obtain ⟨i, a, b, c⟩ := mem_vals.1 hu
    rw [none_has hn] at b; cases b
  · intro he
    have : (cutTo k v d d.width).a = 0 ∧ (cutTo k v d d.width).b = 0 := has_eq (e := ⟨d.from', d.width, 0, 0⟩) hok ⟨h.ok.f, h.ok.w, by simp, by simp⟩ fun i hi => by
      have hz : (⟨d.from', d.width, 0, 0⟩ : Dom).has i = false := none_has rfl i
      rw [hz]
      by_cases hiw : i < d.width
      · cases hb : (cutTo k v d d.width).has i
        · rfl
        · have := mem_vals.2 ⟨i, by rw [cutTo_width]; exact hiw, hb, rfl⟩
          rw [he] at this; cases this
      · rw [cut_has h k v i hi, h.full i hi (by omega)]; rfl
    simp [Dom.none, this]
theorem cut_same : (!(cutTo k v d d.width).same d) = decide ((leftR k v (d.vals d.width)).length < (d.vals d.width).length) := by
  have hw := h.ok.w
  have hok := cutTo_ok k v h.ok d.width
  cases hs : (cutTo k v d d.width).same d
  · symm
    simp only [Bool.not_false, decide_eq_true_eq]
    refine Nat.lt_of_le_of_ne (leftR_len k v _) fun e => ?_
    have hall : leftR k v (d.vals d.width) = d.vals d.width := List.filter_sublist.eq_of_length e
    have := has_eq hok h.ok fun i hi => by
      by_cases hiw : i < d.width
      · rw [cut_has h k v i hi]
        cases hb : d.has i
        · rfl
        · have hm : d.from' + (i : Int) ∈ d.vals d.width := mem_vals.2 ⟨i, hiw, hb, rfl⟩
          rw [← hall] at hm
          have := (List.mem_filter.1 hm).2
          simp at this
          simp [this]
      · rw [cut_has h k v i hi, h.full i hi (by omega)]; rfl
    simp [Dom.same, this] at hs
  · symm
    simp only [Bool.not_true, decide_eq_false_iff_not]
    simp [Dom.same] at hs
    have : leftR k v (d.vals d.width) = d.vals d.width := by
      rw [← cut_vals h k v]
      refine vals_eq (cutTo_from k v d d.width) (cutTo_width k v d d.width) fun i _ => ?_
      unfold Dom.has; rw [hs.1, hs.2]
    rw [this]; omega
theorem cut_DG (hn : leftR k v (d.vals d.width) ≠ []) : DG (cutTo k v d d.width) := by
  refine ⟨cutTo_ok k v h.ok d.width, fun i hi hw => ?_, ?_⟩
  · rw [cutTo_width] at hw
    rw [cut_has h k v i hi, h.full i hi hw]; rfl
  · rw [cut_none h k v]; simpa using hn
end

theorem cut_ref {s : List Dom} (hs : ∀ d ∈ s, DG d) (k x v : Int) : cutR (refD s) k x v = (refD (cutS s k x v).1, (cutS s k x v).2) ∧ ∀ d ∈ (cutS s k x v).1, DG d := by
  unfold cutR cutS
  rw [is_ref]
  by_cases hb : isB s x = true
  · have hb2 := hb
    simp [isB] at hb2
    have hlt : x.toNat < s.length := by omega
    obtain ⟨d, hd⟩ : ∃ d, s[x.toNat]? = some d := ⟨_, List.getElem?_eq_getElem hlt⟩
    have hdg := hs d (List.mem_of_getElem? hd)
    have hrow : rowR (refD s) x = d.vals d.width := by
      rw [row_ref]; unfold valsB; rw [if_pos hb, hd]; rfl
    rw [hrow, hb, if_neg (by simp), if_pos rfl, hd]
    simp only [cut_none hdg k v, cut_same hdg k v, decide_eq_true_eq]
    by_cases hn : leftR k v (d.vals d.width) = []
    · rw [if_pos hn, if_pos hn]
      exact ⟨rfl, hs⟩
    · rw [if_neg hn, if_neg hn]
      refine ⟨?_, fun e he => ?_⟩
      · simp only [refD, List.map_set, cut_vals hdg k v]
      · rcases List.mem_or_eq_of_mem_set he with h | h
        · exact hs e h
        · rw [h]; exact cut_DG hdg k v hn
  · have hf : isB s x = false := by simpa using hb
    rw [hf]
    simp
    exact hs
end Go.Abs.G


namespace Go.Abs.G
set_option linter.unusedVariables false
set_option linter.unusedSimpArgs false

theorem domOf_DG {v : Var} (h : VarOk v) : DG (domOf v) := by
  have hok := dom0_ok h
  refine ⟨fillTo_ok hok _, fun i hi hw => ?_, none_of_has (domOf_has h (i := 0) ?_)⟩
  · rw [domOf_width] at hw
    unfold domOf
    rw [fillTo_has hok (dom0 v).width hok.w i hi]
    have hz : (dom0 v).has i = false := none_has rfl i
    have : ¬ i < (dom0 v).width := by simp only [dom0]; omega
    rw [hz]; simp [this]
  · rw [domOf_width]
    obtain ⟨a, b, c, e⟩ := h
    omega
theorem doms_DG (m : Model) : ∀ d ∈ domsOf m, DG d := by
  unfold domsOf
  by_cases hz : (checkB m).2 = 0
  · have hR : Right m := right_iff.1 (by simp [rightB, hz])
    rw [if_pos hz]
    intro d hd
    simp only [List.mem_map] at hd
    obtain ⟨v, hv, rfl⟩ := hd
    obtain ⟨i, hi⟩ := List.getElem?_of_mem hv
    exact domOf_DG (VarOk.of (hR.var i v hi))
  · rw [if_neg hz]; intro d hd; cases hd
theorem doms_len (m : Model) : (domsOf m).length ≤ 64 := by
  unfold domsOf
  by_cases hz : (checkB m).2 = 0
  · have hR : Right m := right_iff.1 (by simp [rightB, hz])
    have := hR.nv
    rw [if_pos hz, List.length_map]; omega
  · rw [if_neg hz]; simp

/-- Both stores, with all marks, tell the same. -/
structure Two (s : List Dom) (ms : List (List Dom)) : Prop where
  n : s.length ≤ 64
  k : ms.length ≤ 1000000
  d : ∀ d ∈ s, DG d
  m : ∀ L ∈ ms, L.length ≤ 64 ∧ ∀ d ∈ L, DG d
theorem Two.new (m : Model) : Two (domsOf m) [] := ⟨doms_len m, by simp, doms_DG m, fun L hL => by cases hL⟩
theorem Two.cut {s : List Dom} {ms : List (List Dom)} (h : Two s ms) (k x v : Int) : Two (cutS s k x v).1 ms := ⟨by rw [cutS_len]; exact h.n, h.k, (cut_ref h.d k x v).2, h.m⟩
theorem Two.mark {s : List Dom} {ms : List (List Dom)} (h : Two s ms) (hk : ms.length + 1 ≤ 1000000) : Two s (ms ++ [s]) := ⟨h.n, by simpa using hk, h.d, fun L hL => by
  rcases List.mem_append.1 hL with hL | hL
  · exact h.m L hL
  · rw [List.mem_singleton.1 hL]; exact ⟨h.n, h.d⟩⟩
theorem Two.back {s : List Dom} {ms : List (List Dom)} (h : Two s ms) {j : Nat} (hj : j < ms.length) : Two ms[j] (ms.take j) := ⟨(h.m _ (List.getElem_mem hj)).1, Nat.le_trans (by simp; omega) h.k, (h.m _ (List.getElem_mem hj)).2, fun L hL => h.m L (List.mem_of_mem_take hL)⟩
end Go.Abs.G


/- Both stores under one name each, with their calls. -/
namespace Go.Abs.G
open Go.Proofs
set_option linter.unusedVariables false
set_option linter.unusedSimpArgs false

/-- The program's store, the document's: each one object. -/
def ST (s : List Dom) (ms : List (List Dom)) : O := St1 s (mT ms)
def RT (s : List Dom) (ms : List (List Dom)) : O := RR (refD s) (ms.map refD)
theorem ST_nres (s : List Dom) (ms : List (List Dom)) : ST s ms ≠ .res := fun e => by cases e
theorem RT_nres (s : List Dom) (ms : List (List Dom)) : RT s ms ≠ .res := fun e => by cases e
theorem ST_clo' (s : List Dom) (ms : List (List Dom)) : (ST s ms).clo := St1_clo s ms
theorem RT_clo' (s : List Dom) (ms : List (List Dom)) : (RT s ms).clo := RR_clo _ _
section
variable (s : List Dom) (ms : List (List Dom))
@[simp high] theorem ST_isMem : (ST s ms).isMem = false := rfl
@[simp high] theorem RT_isMem : (RT s ms).isMem = false := rfl
@[simp high] theorem ST_isTree : (ST s ms).isTree = true := rfl
@[simp high] theorem RT_isTree : (RT s ms).isTree = true := rfl
@[simp high] theorem ST_trows : (ST s ms).trows = 1 := rfl
@[simp high] theorem RT_trows : (RT s ms).trows = 1 := rfl
@[simp high] theorem ST_refs : (ST s ms).refs = [] := rfl
@[simp high] theorem RT_refs : (RT s ms).refs = [] := rfl
@[simp high] theorem ST_tot : (ST s ms).hasTot 1 = True := by simp [ST, St1, O.hasTot]
@[simp high] theorem RT_tot : (RT s ms).hasTot 1 = True := by simp [RT, RR, R1, O.hasTot]
@[simp] theorem ST_nres' : (ST s ms = .res) = False := eq_false (ST_nres s ms)
@[simp] theorem RT_nres' : (RT s ms = .res) = False := eq_false (RT_nres s ms)
@[simp] theorem ST_clo : (ST s ms).clo = True := eq_true (ST_clo' s ms)
@[simp] theorem RT_clo : (RT s ms).clo = True := eq_true (RT_clo' s ms)
@[simp high] theorem ST_ren (f : Nat → Nat) : O.ren f (ST s ms) = ST s ms := (ST_clo' s ms).ren f
@[simp high] theorem RT_ren (f : Nat → Nat) : O.ren f (RT s ms) = RT s ms := (RT_clo' s ms).ren f
@[simp high] theorem ST_lim (n : Nat) : limO n (ST s ms) = ST s ms := by simp [ST]
@[simp high] theorem RT_lim (n : Nat) : limO n (RT s ms) = RT s ms := by simp [RT, RR, R1, limO, O.refs]
end

@[simp high] theorem ren_vInts (f : Nat → Nat) (l : List Int) : V.ren f (vInts l) = vInts l := by
  simp only [vInts, V.ren]
section
variable {s : List Dom} {ms : List (List Dom)} (h : Two s ms)
include h
end
end Go.Abs.G


/- What a cut makes of the values; what is open. -/
namespace Go.Abs.G
open Go.Proofs
set_option linter.unusedVariables false

end Go.Abs.G



namespace Go.Abs.G
open Go.Proofs
set_option linter.unusedVariables false
set_option linter.unusedSimpArgs false

end Go.Abs.G


namespace Go.Abs.G
open Go.Proofs
set_option linter.unusedVariables false
set_option linter.unusedSimpArgs false

/-- What a Room keeps of one kind: whole lists, and how much of each is no room. -/
abbrev RK := List (List (List V)) × List Int
structure RmS where
  i : RK
  t : RK
  v : RK
  l : RK
  c : RK
def rmRow (ni nt nv nl nc : Nat) : List V := [.own 1 1 0 ni ni, .own 2 1 0 ni ni, nilS, nilS, .own 3 1 0 nt nt, .own 4 1 0 nt nt, .own 5 1 0 nv nv, .own 6 1 0 nv nv, nilS, nilS, nilS, nilS, nilS, nilS, nilS, nilS, .own 7 1 0 nl nl, .own 8 1 0 nl nl, .own 9 1 0 nc nc, .own 10 1 0 nc nc, nilS, nilS, nilS, nilS, nilS, nilS, nilS, nilS]
def Rm (s : RmS) : Heap := [.mem false [1, 2, 3, 4, 5, 6, 7, 8, 9, 10] [rmRow s.i.1.length s.t.1.length s.v.1.length s.l.1.length s.c.1.length],
  .mem false [] (s.i.1.map fun f => [.view 1 f]), .mem false [] (ri s.i.2), .mem false [] (s.t.1.map fun f => [.view 2 f]), .mem false [] (ri s.t.2), .mem false [] (s.v.1.map fun f => [.view 3 f]), .mem false [] (ri s.v.2), .mem false [] (s.l.1.map fun f => [.view 1 f]), .mem false [] (ri s.l.2), .mem false [] (s.c.1.map fun f => [.view 10 f]), .mem false [] (ri s.c.2)]
def RmS.addInts (s : RmS) (full : List (List V)) (n : Int) : RmS := { s with i := (s.i.1 ++ [full], s.i.2 ++ [n]) }
def RmS.addTerms (s : RmS) (full : List (List V)) (n : Int) : RmS := { s with t := (s.t.1 ++ [full], s.t.2 ++ [n]) }
def RmS.addLists (s : RmS) (full : List (List V)) (n : Int) : RmS := { s with l := (s.l.1 ++ [full], s.l.2 ++ [n]) }
def lotI (i : Nat) : Int := if i % 2 = 0 then -7701 else -7702
def mkInts (i : Nat) : List V := [V.i (lotI i)]
def mkTerms (i : Nat) : List V := [V.i (lotI i), V.i 0]
def mkVars (i : Nat) : List V := [.str ⟨#[]⟩, V.i (lotI i), V.i 0]
def mkLists (i : Nat) : List V := [vInts [(lotI i)]]
def mkCons (i : Nat) : List V := [V.i 0, V.i 0, nilS, V.i 0, V.i 0, V.i (lotI i), V.i 0, nilS, nilS, nilS]
def marks (f : Nat → List V) (n : Nat) : List (List V) := (List.range n).map f
theorem marks_succ (f : Nat → List V) (n : Nat) : marks f (n + 1) = marks f n ++ [f n] := by simp [marks, List.range_succ]
theorem marks_len (f : Nat → List V) (n : Nat) : (marks f n).length = n := by simp [marks]
/-- One kind's lists are as they were laid. -/
structure RGood (f : Nat → List V) (k : RK) : Prop where
  n : k.2.length = k.1.length
  m : k.1.length ≤ 1000000000000
  g : ∀ (i : Nat) (full : List (List V)), k.1[i]? = some full → ∃ p : Nat, k.2[i]? = some (p : Int) ∧ p ≤ full.length ∧ full.length ≤ 10000000 ∧ ∀ j, p ≤ j → (h : j < full.length) → full[j] = f (j - p)
theorem RGood.nil (f : Nat → List V) : RGood f ([], []) := ⟨rfl, by simp, by simp⟩
theorem RGood.add {f : Nat → List V} {k : RK} (h : RGood f k) {rows : List (List V)} {room : Nat} (hr : rows.length + room ≤ 10000000) (hk : k.1.length + 1 ≤ 1000000000000) : RGood f (k.1 ++ [rows ++ marks f room], k.2 ++ [(rows.length : Int)]) := by
  refine ⟨by simp [h.n], by simpa using hk, fun i full hi => ?_⟩
  simp only at hi ⊢
  by_cases hik : i < k.1.length
  · rw [List.getElem?_append_left hik] at hi
    obtain ⟨p, h1, h2⟩ := h.g i full hi
    exact ⟨p, by rw [List.getElem?_append_left (by rw [h.n]; exact hik)]; exact h1, h2⟩
  · have e : i = k.1.length := by
      have := (List.getElem?_eq_some_iff.1 hi).1
      simp at this; omega
    subst e
    rw [List.getElem?_append_right (Nat.le_refl _), Nat.sub_self] at hi
    obtain rfl : rows ++ marks f room = full := by simpa using hi
    refine ⟨rows.length, ?_, by simp, by simp [marks_len]; omega, fun j h1 h2 => ?_⟩
    · rw [← h.n, List.getElem?_append_right (Nat.le_refl _), Nat.sub_self]; rfl
    · rw [List.getElem_append_right h1]
      simp [marks]
structure RmOk (s : RmS) : Prop where
  i : RGood mkInts s.i
  t : RGood mkTerms s.t
  v : RGood mkVars s.v
  l : RGood mkLists s.l
  c : RGood mkCons s.c

theorem lot_spec (n : Nat) (hn : n ≤ 1000000000) : Pf Tryz.prog hallmarkroom_lot.id [V.i n] (V.i (lotI n)) := by
  refine DC.of hallmarkroom_lot.ok (by simp) ?_
  unfold hallmarkroom_lot.ir
  have hm : (n : Int).tmod 2 = (n : Int) % 2 := Int.tmod_eq_emod_of_nonneg (by omega)
  have hw : IntKind.i64.wrap ((n : Int) % 2) = (n : Int) % 2 := wrap64 (by omega) (by omega)
  unfold lotI
  by_cases h : n % 2 = 0
  · have h' : (n : Int) % 2 = 0 := by omega
    rw [h'] at hw hm
    simp -dsimp [h, h', hm, hw, hallmarkroom_lot.rs]
  · have h' : (n : Int) % 2 = 1 := by omega
    rw [h'] at hw hm
    simp -dsimp [h, h', hm, hw, hallmarkroom_lot.rs]

theorem layInts_spec (s : RmS) (rows : List (List V)) (room : Nat) (h1 : rows.length ≤ 1000000) (h2 : room ≤ 1000) (h3 : s.i.1.length ≤ 1000000000000) (h4 : s.i.2.length = s.i.1.length) :
    DC Tryz.prog hallmarkroom_Room_layInts.id [.ptr 0 1 0 0, .view 1 rows, V.i room] (Rm s) (fun r H => r = .view 1 rows ∧ H = Rm (s.addInts (rows ++ marks mkInts room) rows.length)) := by
  refine DC.trim (Q := fun r H => r = .view 1 rows ∧ ∃ E, H = Rm (s.addInts (rows ++ marks mkInts room) rows.length) ++ E) ?_ ?_
  rotate_left
  · rintro r H ⟨rfl, E, rfl⟩
    exact ⟨11, by simp [Rm], by simp [V.ids], rfl, by simp [Rm, limO, O.refs]⟩
  refine DC.of hallmarkroom_Room_layInts.ok (by simp) ?_
  unfold hallmarkroom_Room_layInts.ir
  have hRm : ∀ t : RmS, Rm t = Rm t := fun _ => rfl
  obtain ⟨R, hR⟩ : ∃ R, R = O.mem false [1, 2, 3, 4, 5, 6, 7, 8, 9, 10] [rmRow s.i.1.length s.t.1.length s.v.1.length s.l.1.length s.c.1.length] := ⟨_, rfl⟩
  obtain ⟨x1, hx1⟩ : ∃ x : O, x = (O.mem false [] (s.i.1.map fun f => [.view 1 f])) := ⟨_, rfl⟩
  have rx1 : x1.refs = [] := by rw [hx1]; rfl
  obtain ⟨x2, hx2⟩ : ∃ x : O, x = (O.mem false [] (ri s.i.2)) := ⟨_, rfl⟩
  have rx2 : x2.refs = [] := by rw [hx2]; rfl
  obtain ⟨x3, hx3⟩ : ∃ x : O, x = (O.mem false [] (s.t.1.map fun f => [.view 2 f])) := ⟨_, rfl⟩
  have rx3 : x3.refs = [] := by rw [hx3]; rfl
  obtain ⟨x4, hx4⟩ : ∃ x : O, x = (O.mem false [] (ri s.t.2)) := ⟨_, rfl⟩
  have rx4 : x4.refs = [] := by rw [hx4]; rfl
  obtain ⟨x5, hx5⟩ : ∃ x : O, x = (O.mem false [] (s.v.1.map fun f => [.view 3 f])) := ⟨_, rfl⟩
  have rx5 : x5.refs = [] := by rw [hx5]; rfl
  obtain ⟨x6, hx6⟩ : ∃ x : O, x = (O.mem false [] (ri s.v.2)) := ⟨_, rfl⟩
  have rx6 : x6.refs = [] := by rw [hx6]; rfl
  obtain ⟨x7, hx7⟩ : ∃ x : O, x = (O.mem false [] (s.l.1.map fun f => [.view 1 f])) := ⟨_, rfl⟩
  have rx7 : x7.refs = [] := by rw [hx7]; rfl
  obtain ⟨x8, hx8⟩ : ∃ x : O, x = (O.mem false [] (ri s.l.2)) := ⟨_, rfl⟩
  have rx8 : x8.refs = [] := by rw [hx8]; rfl
  obtain ⟨x9, hx9⟩ : ∃ x : O, x = (O.mem false [] (s.c.1.map fun f => [.view 10 f])) := ⟨_, rfl⟩
  have rx9 : x9.refs = [] := by rw [hx9]; rfl
  obtain ⟨x10, hx10⟩ : ∃ x : O, x = (O.mem false [] (ri s.c.2)) := ⟨_, rfl⟩
  have rx10 : x10.refs = [] := by rw [hx10]; rfl
  have hH : Rm s = [R, x1, x2, x3, x4, x5, x6, x7, x8, x9, x10] := by rw [hR, hx1, hx2, hx3, hx4, hx5, hx6, hx7, hx8, hx9, hx10]; rfl
  have hrl : (List.take rows.length (rows ++ marks mkInts room)) = rows := by simp
  rw [hH]
  obtain ⟨A, hA⟩ : ∃ A, A = V.view 1 rows := ⟨_, rfl⟩
  have hAi : A.ids = [] := by rw [hA]; rfl
  rw [← hA]
  have hRr : ∀ i ∈ R.refs, i < 11 := by rw [hR]; simp [O.refs]
  refine vc_cut (At [(0, .ptr 0 1 0 0), (1, A), (2, V.i room)] [R, x1, x2, x3, x4, x5, x6, x7, x8, x9, x10]) (by simp -dsimp [At]) ?_
  try clear h
  rintro ⟨sl, hp, bs⟩ ⟨rfl, h⟩
  simp only [sls_cons, sls_one, sls_nil] at h
  refine vc_cut (At [(0, .ptr 0 1 0 0), (1, A), (2, V.i room), (7, .nul 1)] [R, x1, x2, x3, x4, x5, x6, x7, x8, x9, x10, .res]) (by simp -dsimp [h, At]) ?_
  try clear h
  rintro ⟨sl, hp, bs⟩ ⟨rfl, h⟩
  simp only [sls_cons, sls_one, sls_nil] at h
  have hb0 : (rows.length : Int) * 8 ≤ 140737488355328 := by omega
  refine vc_cut (At [(0, .ptr 0 1 0 0), (1, A), (2, V.i room), (7, .own 13 1 0 rows.length rows.length)] [R, x1, x2, x3, x4, x5, x6, x7, x8, x9, x10, .res, .res, .mem false [] rows]) ?_ ?_
  · simp -dsimp [h]
    refine ⟨_, Weak.ownnul 7 1 (es' := 1) (by simp -dsimp [h]), ?_⟩
    simp -dsimp [h, hA, hb0, At]
  try clear h
  rintro ⟨sl, hp, bs⟩ ⟨rfl, h⟩
  simp only [sls_cons, sls_one, sls_nil] at h
  refine vc_cut (At [(0, .ptr 0 1 0 0), (1, A), (7, .own 13 1 0 (rows.length + room) (rows.length + room))] [R, x1, x2, x3, x4, x5, x6, x7, x8, x9, x10, .res, .res, .mem false [] (rows ++ marks mkInts room)]) ?_ ?_
  · refine vc_cut (At [(0, .ptr 0 1 0 0), (1, A), (2, V.i room), (7, .own 13 1 0 rows.length rows.length), (8, V.i 0)] [R, x1, x2, x3, x4, x5, x6, x7, x8, x9, x10, .res, .res, .mem false [] rows]) (by simp -dsimp [h, At]) ?_
    try clear h
    rintro ⟨sl, hp, bs⟩ ⟨rfl, h⟩
    simp only [sls_cons, sls_one, sls_nil] at h
    refine vc_block_of (vc_upto 14 (by simp) room (fun i st => ∃ C, C = rows ++ marks mkInts i ∧ At [(0, .ptr 0 1 0 0), (1, A), (2, V.i room), (7, .own 13 1 0 (rows.length + i) (rows.length + i)), (8, V.i i)] [R, x1, x2, x3, x4, x5, x6, x7, x8, x9, x10, .res, .res, .mem false [] C] st) ⟨rows, by simp [marks], rfl, by simpa using h⟩ ?_)
    clear h
    rintro i ⟨sl, hp, bs⟩ hi ⟨C, hC, rfl, h⟩
    simp only [sls_cons, sls_one] at h
    unfold hallmarkroom_Room_layInts.b0
    have hCl : C.length = rows.length + i := by rw [hC]; simp [marks_len]
    by_cases hil : i < room
    · have hil' : (i : Int) < room := by omega
      have hw : IntKind.i64.wrap ((i : Int) + 1) = ((i + 1 : Nat) : Int) := by rw [wrap64] <;> omega
      have hl := lot_spec i (by omega)
      have hsu := marks_succ mkInts i
      have hbb : ((rows.length + i : Nat) : Int) * 8 + 8 ≤ 140737488355328 := by omega
      have hb2 : ((rows.length : Int) + (i : Int) + 1) * 8 ≤ 140737488355328 := by omega
      simp -dsimp [h, hil, hil']
      refine gcall (hl) (by simp -dsimp [h, hCl, hb2, At, hw, hil, hAi, rx1, rx2, rx3, rx4, rx5, rx6, rx7, rx8, rx9, rx10]) (by simp -dsimp [h, hCl, hb2, At, hw, hil, hAi, rx1, rx2, rx3, rx4, rx5, rx6, rx7, rx8, rx9, rx10]) ?_
      simp -dsimp [h, hCl, hb2, At, hw, hil, hAi, rx1, rx2, rx3, rx4, rx5, rx6, rx7, rx8, rx9, rx10]
      exact ⟨⟨fun x hx h14 => absurd (hRr x hx) (by omega), by rw [hC, hsu, List.append_assoc]; rfl⟩, by omega⟩
    · have hil' : ¬ (i : Int) < room := by omega
      have e : i = room := by omega
      subst e
      simp -dsimp [h, hil', At, hC]
  try clear h
  rintro ⟨sl, hp, bs⟩ ⟨rfl, h⟩
  simp only [sls_cons, sls_one, sls_nil] at h
  obtain ⟨full, hfull⟩ : ∃ full, full = rows ++ marks mkInts room := ⟨_, rfl⟩
  rw [← hfull] at hrl ⊢
  have hfl : full.length = rows.length + room := by rw [hfull]; simp [marks_len]
  have ht : List.take (rows.length + room) full = full := List.take_of_length_le (by omega)
  have hb3 : ((s.i.1.length : Int) + 1) * 24 ≤ 140737488355328 := by omega
  have hb4 : ((s.i.1.length : Int) + 1) * 8 ≤ 140737488355328 := by omega
  have rl : (ri s.i.2).length = s.i.1.length := by rw [ri_len, h4]
  have hle : rows.length ≤ rows.length + room := Nat.le_add_right _ _
  have hli : (rows.length : Int) ≤ rows.length + room := by omega
  simp -dsimp [h, hfl, ht, hR, rmRow, hx1, hx2, hA, hb3, hb4, rl, hrl, V.isView, V.rowsV, hle, hli, hallmarkroom_Room_layInts.rs]
  refine ⟨[O.res, .res, .mem true [] full, .res, .res, .res, .res], ?_⟩
  simp [Rm, RmS.addInts, rmRow, List.map_append, ri, hx1, hx2, hx3, hx4, hx5, hx6, hx7, hx8, hx9, hx10]

theorem layTerms_spec (s : RmS) (rows : List (List V)) (room : Nat) (h1 : rows.length ≤ 1000000) (h2 : room ≤ 1000) (h3 : s.t.1.length ≤ 1000000000000) (h4 : s.t.2.length = s.t.1.length) :
    DC Tryz.prog hallmarkroom_Room_layTerms.id [.ptr 0 1 0 0, .view 2 rows, V.i room] (Rm s) (fun r H => r = .view 2 rows ∧ H = Rm (s.addTerms (rows ++ marks mkTerms room) rows.length)) := by
  refine DC.trim (Q := fun r H => r = .view 2 rows ∧ ∃ E, H = Rm (s.addTerms (rows ++ marks mkTerms room) rows.length) ++ E) ?_ ?_
  rotate_left
  · rintro r H ⟨rfl, E, rfl⟩
    exact ⟨11, by simp [Rm], by simp [V.ids], rfl, by simp [Rm, limO, O.refs]⟩
  refine DC.of hallmarkroom_Room_layTerms.ok (by simp) ?_
  unfold hallmarkroom_Room_layTerms.ir
  have hRm : ∀ t : RmS, Rm t = Rm t := fun _ => rfl
  obtain ⟨R, hR⟩ : ∃ R, R = O.mem false [1, 2, 3, 4, 5, 6, 7, 8, 9, 10] [rmRow s.i.1.length s.t.1.length s.v.1.length s.l.1.length s.c.1.length] := ⟨_, rfl⟩
  obtain ⟨x1, hx1⟩ : ∃ x : O, x = (O.mem false [] (s.i.1.map fun f => [.view 1 f])) := ⟨_, rfl⟩
  have rx1 : x1.refs = [] := by rw [hx1]; rfl
  obtain ⟨x2, hx2⟩ : ∃ x : O, x = (O.mem false [] (ri s.i.2)) := ⟨_, rfl⟩
  have rx2 : x2.refs = [] := by rw [hx2]; rfl
  obtain ⟨x3, hx3⟩ : ∃ x : O, x = (O.mem false [] (s.t.1.map fun f => [.view 2 f])) := ⟨_, rfl⟩
  have rx3 : x3.refs = [] := by rw [hx3]; rfl
  obtain ⟨x4, hx4⟩ : ∃ x : O, x = (O.mem false [] (ri s.t.2)) := ⟨_, rfl⟩
  have rx4 : x4.refs = [] := by rw [hx4]; rfl
  obtain ⟨x5, hx5⟩ : ∃ x : O, x = (O.mem false [] (s.v.1.map fun f => [.view 3 f])) := ⟨_, rfl⟩
  have rx5 : x5.refs = [] := by rw [hx5]; rfl
  obtain ⟨x6, hx6⟩ : ∃ x : O, x = (O.mem false [] (ri s.v.2)) := ⟨_, rfl⟩
  have rx6 : x6.refs = [] := by rw [hx6]; rfl
  obtain ⟨x7, hx7⟩ : ∃ x : O, x = (O.mem false [] (s.l.1.map fun f => [.view 1 f])) := ⟨_, rfl⟩
  have rx7 : x7.refs = [] := by rw [hx7]; rfl
  obtain ⟨x8, hx8⟩ : ∃ x : O, x = (O.mem false [] (ri s.l.2)) := ⟨_, rfl⟩
  have rx8 : x8.refs = [] := by rw [hx8]; rfl
  obtain ⟨x9, hx9⟩ : ∃ x : O, x = (O.mem false [] (s.c.1.map fun f => [.view 10 f])) := ⟨_, rfl⟩
  have rx9 : x9.refs = [] := by rw [hx9]; rfl
  obtain ⟨x10, hx10⟩ : ∃ x : O, x = (O.mem false [] (ri s.c.2)) := ⟨_, rfl⟩
  have rx10 : x10.refs = [] := by rw [hx10]; rfl
  have hH : Rm s = [R, x1, x2, x3, x4, x5, x6, x7, x8, x9, x10] := by rw [hR, hx1, hx2, hx3, hx4, hx5, hx6, hx7, hx8, hx9, hx10]; rfl
  have hrl : (List.take rows.length (rows ++ marks mkTerms room)) = rows := by simp
  rw [hH]
  obtain ⟨A, hA⟩ : ∃ A, A = V.view 2 rows := ⟨_, rfl⟩
  have hAi : A.ids = [] := by rw [hA]; rfl
  rw [← hA]
  have hRr : ∀ i ∈ R.refs, i < 11 := by rw [hR]; simp [O.refs]
  refine vc_cut (At [(0, .ptr 0 1 0 0), (1, A), (2, V.i room)] [R, x1, x2, x3, x4, x5, x6, x7, x8, x9, x10]) (by simp -dsimp [At]) ?_
  try clear h
  rintro ⟨sl, hp, bs⟩ ⟨rfl, h⟩
  simp only [sls_cons, sls_one, sls_nil] at h
  refine vc_cut (At [(0, .ptr 0 1 0 0), (1, A), (2, V.i room), (7, .nul 2)] [R, x1, x2, x3, x4, x5, x6, x7, x8, x9, x10, .res]) (by simp -dsimp [h, At]) ?_
  try clear h
  rintro ⟨sl, hp, bs⟩ ⟨rfl, h⟩
  simp only [sls_cons, sls_one, sls_nil] at h
  have hb0 : (rows.length : Int) * 16 ≤ 140737488355328 := by omega
  refine vc_cut (At [(0, .ptr 0 1 0 0), (1, A), (2, V.i room), (7, .own 13 2 0 rows.length rows.length)] [R, x1, x2, x3, x4, x5, x6, x7, x8, x9, x10, .res, .res, .mem false [] rows]) ?_ ?_
  · simp -dsimp [h]
    refine ⟨_, Weak.ownnul 7 2 (es' := 2) (by simp -dsimp [h]), ?_⟩
    simp -dsimp [h, hA, hb0, At]
  try clear h
  rintro ⟨sl, hp, bs⟩ ⟨rfl, h⟩
  simp only [sls_cons, sls_one, sls_nil] at h
  refine vc_cut (At [(0, .ptr 0 1 0 0), (1, A), (7, .own 13 2 0 (rows.length + room) (rows.length + room))] [R, x1, x2, x3, x4, x5, x6, x7, x8, x9, x10, .res, .res, .mem false [] (rows ++ marks mkTerms room)]) ?_ ?_
  · refine vc_cut (At [(0, .ptr 0 1 0 0), (1, A), (2, V.i room), (7, .own 13 2 0 rows.length rows.length), (8, V.i 0)] [R, x1, x2, x3, x4, x5, x6, x7, x8, x9, x10, .res, .res, .mem false [] rows]) (by simp -dsimp [h, At]) ?_
    try clear h
    rintro ⟨sl, hp, bs⟩ ⟨rfl, h⟩
    simp only [sls_cons, sls_one, sls_nil] at h
    refine vc_block_of (vc_upto 14 (by simp) room (fun i st => ∃ C, C = rows ++ marks mkTerms i ∧ At [(0, .ptr 0 1 0 0), (1, A), (2, V.i room), (7, .own 13 2 0 (rows.length + i) (rows.length + i)), (8, V.i i)] [R, x1, x2, x3, x4, x5, x6, x7, x8, x9, x10, .res, .res, .mem false [] C] st) ⟨rows, by simp [marks], rfl, by simpa using h⟩ ?_)
    clear h
    rintro i ⟨sl, hp, bs⟩ hi ⟨C, hC, rfl, h⟩
    simp only [sls_cons, sls_one] at h
    unfold hallmarkroom_Room_layTerms.b0
    have hCl : C.length = rows.length + i := by rw [hC]; simp [marks_len]
    by_cases hil : i < room
    · have hil' : (i : Int) < room := by omega
      have hw : IntKind.i64.wrap ((i : Int) + 1) = ((i + 1 : Nat) : Int) := by rw [wrap64] <;> omega
      have hl := lot_spec i (by omega)
      have hsu := marks_succ mkTerms i
      have hbb : ((rows.length + i : Nat) : Int) * 16 + 16 ≤ 140737488355328 := by omega
      have hb2 : ((rows.length : Int) + (i : Int) + 1) * 16 ≤ 140737488355328 := by omega
      simp -dsimp [h, hil, hil']
      refine gcall (hl) (by simp -dsimp [h, hCl, hb2, At, hw, hil, hAi, rx1, rx2, rx3, rx4, rx5, rx6, rx7, rx8, rx9, rx10]) (by simp -dsimp [h, hCl, hb2, At, hw, hil, hAi, rx1, rx2, rx3, rx4, rx5, rx6, rx7, rx8, rx9, rx10]) ?_
      simp -dsimp [h, hCl, hb2, At, hw, hil, hAi, rx1, rx2, rx3, rx4, rx5, rx6, rx7, rx8, rx9, rx10]
      exact ⟨⟨fun x hx h14 => absurd (hRr x hx) (by omega), by rw [hC, hsu, List.append_assoc]; rfl⟩, by omega⟩
    · have hil' : ¬ (i : Int) < room := by omega
      have e : i = room := by omega
      subst e
      simp -dsimp [h, hil', At, hC]
  try clear h
  rintro ⟨sl, hp, bs⟩ ⟨rfl, h⟩
  simp only [sls_cons, sls_one, sls_nil] at h
  obtain ⟨full, hfull⟩ : ∃ full, full = rows ++ marks mkTerms room := ⟨_, rfl⟩
  rw [← hfull] at hrl ⊢
  have hfl : full.length = rows.length + room := by rw [hfull]; simp [marks_len]
  have ht : List.take (rows.length + room) full = full := List.take_of_length_le (by omega)
  have hb3 : ((s.t.1.length : Int) + 1) * 24 ≤ 140737488355328 := by omega
  have hb4 : ((s.t.1.length : Int) + 1) * 8 ≤ 140737488355328 := by omega
  have rl : (ri s.t.2).length = s.t.1.length := by rw [ri_len, h4]
  have hle : rows.length ≤ rows.length + room := Nat.le_add_right _ _
  have hli : (rows.length : Int) ≤ rows.length + room := by omega
  simp -dsimp [h, hfl, ht, hR, rmRow, hx3, hx4, hA, hb3, hb4, rl, hrl, V.isView, V.rowsV, hle, hli, hallmarkroom_Room_layTerms.rs]
  refine ⟨[O.res, .res, .mem true [] full, .res, .res, .res, .res], ?_⟩
  simp [Rm, RmS.addTerms, rmRow, List.map_append, ri, hx1, hx2, hx3, hx4, hx5, hx6, hx7, hx8, hx9, hx10]

end Go.Abs.G

namespace Go.Abs.G
open Go.Proofs
set_option linter.unusedVariables false
set_option linter.unusedSimpArgs false

def lim : Nat := 1000000000000
/-- The lists of a Room are at most so many of each kind, and all as they were laid. -/
structure RmLe (s : RmS) (n : Nat) : Prop where
  ok : RmOk s
  i : s.i.1.length ≤ n
  t : s.t.1.length ≤ n
  v : s.v.1.length ≤ n
  l : s.l.1.length ≤ n
  c : s.c.1.length ≤ n
theorem RmLe.mono {s : RmS} {n k : Nat} (h : RmLe s n) (hk : n ≤ k) : RmLe s k :=
  ⟨h.ok, Nat.le_trans h.i hk, Nat.le_trans h.t hk, Nat.le_trans h.v hk, Nat.le_trans h.l hk, Nat.le_trans h.c hk⟩
theorem RmLe.addInts {s : RmS} {n : Nat} (h : RmLe s n) (hn : n + 1 ≤ 1000000000000) {rows : List (List V)} {room : Nat} (hr : rows.length + room ≤ 10000000) : RmLe (s.addInts (rows ++ marks mkInts room) rows.length) (n + 1) := by
  obtain ⟨⟨i, t, v, l, c⟩, hi, ht, hv, hl, hc⟩ := h
  exact ⟨⟨i.add hr (by omega), t, v, l, c⟩, by simpa [RmS.addInts] using hi, Nat.le_succ_of_le ht, Nat.le_succ_of_le hv, Nat.le_succ_of_le hl, Nat.le_succ_of_le hc⟩
theorem RmLe.addTerms {s : RmS} {n : Nat} (h : RmLe s n) (hn : n + 1 ≤ 1000000000000) {rows : List (List V)} {room : Nat} (hr : rows.length + room ≤ 10000000) : RmLe (s.addTerms (rows ++ marks mkTerms room) rows.length) (n + 1) := by
  obtain ⟨⟨i, t, v, l, c⟩, hi, ht, hv, hl, hc⟩ := h
  exact ⟨⟨i, t.add hr (by omega), v, l, c⟩, Nat.le_succ_of_le hi, by simpa [RmS.addTerms] using ht, Nat.le_succ_of_le hv, Nat.le_succ_of_le hl, Nat.le_succ_of_le hc⟩
theorem RmLe.addLists {s : RmS} {n : Nat} (h : RmLe s n) (hn : n + 1 ≤ 1000000000000) {rows : List (List V)} {room : Nat} (hr : rows.length + room ≤ 10000000) : RmLe (s.addLists (rows ++ marks mkLists room) rows.length) (n + 1) := by
  obtain ⟨⟨i, t, v, l, c⟩, hi, ht, hv, hl, hc⟩ := h
  exact ⟨⟨i, t, v, l.add hr (by omega), c⟩, Nat.le_succ_of_le hi, Nat.le_succ_of_le ht, Nat.le_succ_of_le hv, by simpa [RmS.addLists] using hl, Nat.le_succ_of_le hc⟩
abbrev s11 : List Nat := [0, 1, 2, 3, 4, 5, 6, 7, 8, 9, 10]
theorem Rm_ren (f : Nat → Nat) (h : ∀ i, i ≤ 10 → f i = i) (s : RmS) : (Rm s).map (O.ren f) = Rm s := by
  simp [Rm, O.ren, rmRow, V.renL, V.ren, ri, Function.comp_def, nilS, h 1, h 2, h 3, h 4, h 5, h 6, h 7, h 8, h 9, h 10]
theorem Rm_clos (s : RmS) (E : Heap) : clos (Rm s ++ E) 8 [0] = s11 := by simp [clos, addAll, O.refs, Rm]
theorem Rm_sel (s : RmS) (E : Heap) : OkSel (Rm s ++ E) s11 := by
  simp [OkSel, O.refs, Rm]
theorem Rm_sub (s : RmS) (E : Heap) : sub (Rm s ++ E) s11 = Rm s := by
  have h := Rm_ren (idx s11) (by decide) s
  exact h
theorem back_s11 (n : Nat) : ∀ i, i ≤ 10 → back s11 n i = i := by
  intro i hi
  have : i = 0 ∨ i = 1 ∨ i = 2 ∨ i = 3 ∨ i = 4 ∨ i = 5 ∨ i = 6 ∨ i = 7 ∨ i = 8 ∨ i = 9 ∨ i = 10 := by omega
  rcases this with h | h | h | h | h | h | h | h | h | h | h <;> subst h <;> simp [back]
theorem Rm_merge (s s' : RmS) (E : Heap) : merge (Rm s ++ E) s11 (Rm s') = Rm s' ++ E := by
  have h := Rm_ren (back s11 (Rm s ++ E).length) (back_s11 _) s'
  have h1 : (Rm s').take 11 = Rm s' := rfl
  have h2 : (Rm s').drop 11 = [] := rfl
  have h3 : s11.length = 11 := rfl
  simp only [merge, h3, h1, h2, h, List.map_nil, List.append_nil]
  rfl

/-- A call that is handed the Room, and answers something that holds nothing. -/
theorem gcallR {P : Program} {f : FuncId} {d : Option Nat} {xs : List Operand} {k : St → Prop} {st : St} {s : RmS} {F : Heap} {zs : List V} {Q : V → RmS → Prop} (hc : DC P f zs (Rm s) fun r H => (∀ g, r.ren g = r) ∧ ∃ s', Q r s' ∧ H = Rm s') (hh : st.hp = Rm s ++ F)
    (hi : addAll [] (V.idsL (xs.map st.ev)) = [0]) (ha : V.renL (idx s11) (xs.map st.ev) = zs) (hf : okFunc P f = true)
    (hk : ∀ r s', Q r s' → k ({ st with hp := Rm s' ++ F }.put d r)) : IvcF P (.callm d (.func f) xs) k st := by
  refine gcallm_gen hc s11 (by rw [hi, hh]; exact Rm_clos s F) (by rw [hh]; exact Rm_sel s F) ha (by rw [hh]; exact Rm_sub s F) hf ?_
  rintro r H ⟨hr, s', hq, rfl⟩
  rw [hr, hh, Rm_merge]
  exact hk r s' hq
end Go.Abs.G

namespace Go.Abs.G
open Go.Proofs
set_option linter.unusedVariables false
set_option linter.unusedSimpArgs false
section
variable {s : RmS} {F : Heap}
@[simp] theorem Rm_len : (Rm s).length = 11 := rfl
@[simp] theorem RmE_11 (a : O) : (Rm s ++ (a :: F))[11]? = some a := rfl
@[simp] theorem RmE_11' (a : O) (h) : (Rm s ++ (a :: F))[11]'h = a := rfl
@[simp] theorem RmE_set11 (a x : O) : (Rm s ++ (a :: F)).set 11 x = Rm s ++ (x :: F) := rfl
@[simp] theorem RmE_take12_0 (a : O) : List.take 12 (Rm s ++ [a]) = Rm s ++ [a] := rfl
@[simp] theorem RmE_take12_1 (a y0 : O) : List.take 12 (Rm s ++ [a, y0]) = Rm s ++ [a] := rfl
@[simp] theorem RmE_take12_2 (a y0 y1 : O) : List.take 12 (Rm s ++ [a, y0, y1]) = Rm s ++ [a] := rfl
@[simp] theorem RmE_take12_3 (a y0 y1 y2 : O) : List.take 12 (Rm s ++ [a, y0, y1, y2]) = Rm s ++ [a] := rfl
@[simp] theorem RmE_take12_4 (a y0 y1 y2 y3 : O) : List.take 12 (Rm s ++ [a, y0, y1, y2, y3]) = Rm s ++ [a] := rfl
@[simp] theorem RmE_take12_5 (a y0 y1 y2 y3 y4 : O) : List.take 12 (Rm s ++ [a, y0, y1, y2, y3, y4]) = Rm s ++ [a] := rfl
@[simp] theorem Rm_lim12 : (Rm s).map (limO 12) = Rm s := rfl
@[simp] theorem RmE_12 (a b : O) : (Rm s ++ (a :: b :: F))[12]? = some b := rfl
@[simp] theorem RmE_12' (a b : O) (h) : (Rm s ++ (a :: b :: F))[12]'h = b := rfl
@[simp] theorem RmE_set12 (a b x : O) : (Rm s ++ (a :: b :: F)).set 12 x = Rm s ++ (a :: x :: F) := rfl
@[simp] theorem RmE_take13_0 (a b : O) : List.take 13 (Rm s ++ [a, b]) = Rm s ++ [a, b] := rfl
@[simp] theorem RmE_take13_1 (a b y0 : O) : List.take 13 (Rm s ++ [a, b, y0]) = Rm s ++ [a, b] := rfl
@[simp] theorem RmE_take13_2 (a b y0 y1 : O) : List.take 13 (Rm s ++ [a, b, y0, y1]) = Rm s ++ [a, b] := rfl
@[simp] theorem RmE_take13_3 (a b y0 y1 y2 : O) : List.take 13 (Rm s ++ [a, b, y0, y1, y2]) = Rm s ++ [a, b] := rfl
@[simp] theorem RmE_take13_4 (a b y0 y1 y2 y3 : O) : List.take 13 (Rm s ++ [a, b, y0, y1, y2, y3]) = Rm s ++ [a, b] := rfl
@[simp] theorem RmE_take13_5 (a b y0 y1 y2 y3 y4 : O) : List.take 13 (Rm s ++ [a, b, y0, y1, y2, y3, y4]) = Rm s ++ [a, b] := rfl
@[simp] theorem Rm_lim13 : (Rm s).map (limO 13) = Rm s := rfl
@[simp] theorem RmE_13 (a b c : O) : (Rm s ++ (a :: b :: c :: F))[13]? = some c := rfl
@[simp] theorem RmE_13' (a b c : O) (h) : (Rm s ++ (a :: b :: c :: F))[13]'h = c := rfl
@[simp] theorem RmE_set13 (a b c x : O) : (Rm s ++ (a :: b :: c :: F)).set 13 x = Rm s ++ (a :: b :: x :: F) := rfl
@[simp] theorem RmE_take14_0 (a b c : O) : List.take 14 (Rm s ++ [a, b, c]) = Rm s ++ [a, b, c] := rfl
@[simp] theorem RmE_take14_1 (a b c y0 : O) : List.take 14 (Rm s ++ [a, b, c, y0]) = Rm s ++ [a, b, c] := rfl
@[simp] theorem RmE_take14_2 (a b c y0 y1 : O) : List.take 14 (Rm s ++ [a, b, c, y0, y1]) = Rm s ++ [a, b, c] := rfl
@[simp] theorem RmE_take14_3 (a b c y0 y1 y2 : O) : List.take 14 (Rm s ++ [a, b, c, y0, y1, y2]) = Rm s ++ [a, b, c] := rfl
@[simp] theorem RmE_take14_4 (a b c y0 y1 y2 y3 : O) : List.take 14 (Rm s ++ [a, b, c, y0, y1, y2, y3]) = Rm s ++ [a, b, c] := rfl
@[simp] theorem RmE_take14_5 (a b c y0 y1 y2 y3 y4 : O) : List.take 14 (Rm s ++ [a, b, c, y0, y1, y2, y3, y4]) = Rm s ++ [a, b, c] := rfl
@[simp] theorem Rm_lim14 : (Rm s).map (limO 14) = Rm s := rfl
@[simp] theorem RmE_14 (a b c d : O) : (Rm s ++ (a :: b :: c :: d :: F))[14]? = some d := rfl
@[simp] theorem RmE_14' (a b c d : O) (h) : (Rm s ++ (a :: b :: c :: d :: F))[14]'h = d := rfl
@[simp] theorem RmE_set14 (a b c d x : O) : (Rm s ++ (a :: b :: c :: d :: F)).set 14 x = Rm s ++ (a :: b :: c :: x :: F) := rfl
@[simp] theorem RmE_take15_0 (a b c d : O) : List.take 15 (Rm s ++ [a, b, c, d]) = Rm s ++ [a, b, c, d] := rfl
@[simp] theorem RmE_take15_1 (a b c d y0 : O) : List.take 15 (Rm s ++ [a, b, c, d, y0]) = Rm s ++ [a, b, c, d] := rfl
@[simp] theorem RmE_take15_2 (a b c d y0 y1 : O) : List.take 15 (Rm s ++ [a, b, c, d, y0, y1]) = Rm s ++ [a, b, c, d] := rfl
@[simp] theorem RmE_take15_3 (a b c d y0 y1 y2 : O) : List.take 15 (Rm s ++ [a, b, c, d, y0, y1, y2]) = Rm s ++ [a, b, c, d] := rfl
@[simp] theorem RmE_take15_4 (a b c d y0 y1 y2 y3 : O) : List.take 15 (Rm s ++ [a, b, c, d, y0, y1, y2, y3]) = Rm s ++ [a, b, c, d] := rfl
@[simp] theorem RmE_take15_5 (a b c d y0 y1 y2 y3 y4 : O) : List.take 15 (Rm s ++ [a, b, c, d, y0, y1, y2, y3, y4]) = Rm s ++ [a, b, c, d] := rfl
@[simp] theorem Rm_lim15 : (Rm s).map (limO 15) = Rm s := rfl
@[simp] theorem Rm_lim11 : (Rm s).map (limO 11) = Rm s := rfl
@[simp] theorem Rm_take11 : List.take 11 (Rm s ++ F) = Rm s := rfl
end
end Go.Abs.G

namespace Go.Abs.G
open Go.Proofs
set_option linter.unusedVariables false
set_option linter.unusedSimpArgs false

theorem take_s {α : Type} (l : List α) (i : Nat) (h : i < l.length) : l.take (i + 1) = l.take i ++ [l[i]] := by rw [List.take_add_one, List.getElem?_eq_getElem h]; rfl
theorem le_foldl {α : Type} (f : RmS → α → RmS) (P : α → Prop) (k : Nat) (hf : ∀ s n x, RmLe s n → n + k ≤ 1000000000000 → P x → RmLe (f s x) (n + k)) : ∀ (l : List α) (s : RmS) (n : Nat), RmLe s n → n + l.length * k ≤ 1000000000000 → (∀ x ∈ l, P x) → RmLe (l.foldl f s) (n + l.length * k)
  | [], s, n, h, _, _ => by simpa using h
  | x :: l, s, n, h, hn, hp => by
    have e : n + (x :: l).length * k = (n + k) + l.length * k := by rw [List.length_cons, Nat.add_mul]; omega
    rw [e] at hn ⊢
    exact le_foldl f P k hf l _ _ (hf s n x h (by omega) (hp x (by simp))) hn fun y hy => hp y (by simp [hy])

def RmS.lInts (s : RmS) (l : List Int) (room : Nat) : RmS := s.addInts (ri l ++ marks mkInts room) (l.length : Int)
def RmS.lTerms (s : RmS) (l : List Term) (room : Nat) : RmS := s.addTerms (l.map Term.cells ++ marks mkTerms room) (l.length : Int)
def RmS.fLists (s : RmS) (l : List (List Int)) : RmS := l.foldl (fun s r => s.lInts r 4) s
def RmS.lLists (s : RmS) (l : List (List Int)) (room : Nat) : RmS := (s.fLists l).addLists ((l.map fun r => [vInts r]) ++ marks mkLists room) (l.length : Int)
def RmS.lCon (s : RmS) (c : Con) (room : Nat) : RmS := (((s.lTerms c.terms room).lInts c.xs room).lInts c.table room).lLists c.rows room
theorem RmLe.lInts {s : RmS} {n : Nat} (h : RmLe s n) (hn : n + 1 ≤ 1000000000000) {l : List Int} {room : Nat} (hr : l.length ≤ 1000000) (hm : room ≤ 1000) : RmLe (s.lInts l room) (n + 1) := by
  have := h.addInts hn (rows := ri l) (room := room) (by rw [ri_len]; omega)
  rwa [ri_len] at this
theorem RmLe.lTerms {s : RmS} {n : Nat} (h : RmLe s n) (hn : n + 1 ≤ 1000000000000) {l : List Term} {room : Nat} (hr : l.length ≤ 1000000) (hm : room ≤ 1000) : RmLe (s.lTerms l room) (n + 1) := by
  have := h.addTerms hn (rows := l.map Term.cells) (room := room) (by simp; omega)
  rwa [List.length_map] at this
theorem RmLe.fLists {s : RmS} {n : Nat} (h : RmLe s n) {l : List (List Int)} (hn : n + l.length ≤ 1000000000000) (hr : ∀ r ∈ l, r.length ≤ 1000000) : RmLe (s.fLists l) (n + l.length) := by
  have := le_foldl (fun s r => s.lInts r 4) (fun r => r.length ≤ 1000000) 1 (fun s n x h hn hx => h.lInts hn hx (by omega)) l s n h (by omega) hr
  rw [Nat.mul_one] at this
  exact this
theorem RmLe.lLists {s : RmS} {n : Nat} (h : RmLe s n) {l : List (List Int)} {room : Nat} (hn : n + l.length + 1 ≤ 1000000000000) (hr : ∀ r ∈ l, r.length ≤ 1000000) (hl : l.length ≤ 1000000) (hm : room ≤ 1000) : RmLe (s.lLists l room) (n + l.length + 1) := by
  have := (h.fLists (l := l) (by omega) hr).addLists hn (rows := l.map fun r => [vInts r]) (room := room) (by simp; omega)
  rwa [List.length_map] at this
structure ConLe (c : Con) : Prop where
  terms : c.terms.length ≤ 20000
  xs : c.xs.length ≤ 20000
  table : c.table.length ≤ 20000
  rows : c.rows.length ≤ 20000
  row : ∀ r ∈ c.rows, r.length ≤ 20000
theorem RmLe.lCon {s : RmS} {n : Nat} (h : RmLe s n) {c : Con} (hc : ConLe c) {room : Nat} (hn : n + 20004 ≤ 1000000000000) (hm : room ≤ 1000) : RmLe (s.lCon c room) (n + 20004) := by
  have r := hc.rows
  have h1 := h.lTerms (l := c.terms) (room := room) (by omega) (by have := hc.terms; omega) hm
  have h2 := h1.lInts (l := c.xs) (room := room) (by omega) (by have := hc.xs; omega) hm
  have h3 := h2.lInts (l := c.table) (room := room) (by omega) (by have := hc.table; omega) hm
  exact (h3.lLists (l := c.rows) (room := room) (by omega) (fun r hr => by have := hc.row r hr; omega) (by omega) hm).mono (by omega)
theorem layIntsS (s : RmS) (l : List Int) (room n : Nat) (h1 : l.length ≤ 1000000) (h2 : room ≤ 1000) (hs : RmLe s n) (hn : n ≤ 1000000000000) :
    DC Tryz.prog hallmarkroom_Room_layInts.id [.ptr 0 1 0 0, vInts l, V.i room] (Rm s) (fun r H => (∀ g, r.ren g = r) ∧ ∃ s', (r = vInts l ∧ s' = s.lInts l room) ∧ H = Rm s') := by
  refine DC.mono (layInts_spec s (ri l) room (by rw [ri_len]; exact h1) h2 (Nat.le_trans hs.i hn) hs.ok.i.n) ?_
  rintro r H ⟨rfl, rfl⟩
  exact ⟨fun g => rfl, _, ⟨rfl, rfl⟩, by rw [ri_len]; rfl⟩
theorem layTermsS (s : RmS) (l : List Term) (room n : Nat) (h1 : l.length ≤ 1000000) (h2 : room ≤ 1000) (hs : RmLe s n) (hn : n ≤ 1000000000000) :
    DC Tryz.prog hallmarkroom_Room_layTerms.id [.ptr 0 1 0 0, vTerms l, V.i room] (Rm s) (fun r H => (∀ g, r.ren g = r) ∧ ∃ s', (r = vTerms l ∧ s' = s.lTerms l room) ∧ H = Rm s') := by
  refine DC.mono (layTerms_spec s (l.map Term.cells) room (by simpa using h1) h2 (Nat.le_trans hs.t hn) hs.ok.t.n) ?_
  rintro r H ⟨rfl, rfl⟩
  exact ⟨fun g => rfl, _, ⟨rfl, rfl⟩, by rw [List.length_map]; rfl⟩
theorem layListsS (s : RmS) (l : List (List Int)) (room n : Nat) (h1 : l.length ≤ 20000) (hx : ∀ r ∈ l, r.length ≤ 20000) (h2 : room ≤ 1000) (hs : RmLe s n) (hn : n + l.length + 1 ≤ 1000000000000) :
    DC Tryz.prog hallmarkroom_Room_layLists.id [.ptr 0 1 0 0, vIntss l, V.i room] (Rm s) (fun r H => (∀ g, r.ren g = r) ∧ ∃ s', (r = vIntss l ∧ s' = s.lLists l room) ∧ H = Rm s') := by
  refine DC.trim (Q := fun r H => r = vIntss l ∧ ∃ E, H = Rm (s.lLists l room) ++ E) ?_ ?_
  rotate_left
  · rintro r H ⟨rfl, E, rfl⟩
    exact ⟨11, by simp, by simp [V.ids, vIntss], fun g => rfl, _, ⟨rfl, rfl⟩, by simp⟩
  refine DC.of hallmarkroom_Room_layLists.ok (by simp) ?_
  unfold hallmarkroom_Room_layLists.ir
  obtain ⟨A, hA⟩ : ∃ A, A = vIntss l := ⟨_, rfl⟩
  have hAi : A.ids = [] := by rw [hA]; rfl
  rw [← hA]
  obtain ⟨G, hG⟩ : ∃ G : Nat → List (List V), G = fun i => (l.take i).map (fun r => [vInts r]) := ⟨_, rfl⟩
  have hGl : ∀ i, i ≤ l.length → (G i).length = i := fun i hi => by rw [hG]; simp [hi]
  have hGs : ∀ i, (h : i < l.length) → G (i + 1) = G i ++ [(fun r => [vInts r]) l[i]] := fun i hi => by rw [hG]; simp only [take_s l i hi, List.map_append, List.map_cons, List.map_nil]
  obtain ⟨S, hS⟩ : ∃ S : Nat → RmS, S = fun i => s.fLists (l.take i) := ⟨_, rfl⟩
  have hSs : ∀ i, (h : i < l.length) → S (i + 1) = (S i).lInts l[i] 4 := fun i hi => by rw [hS]; simp only [RmS.fLists, take_s l i hi, List.foldl_append, List.foldl_cons, List.foldl_nil]
  have hSle : ∀ i, i ≤ l.length → RmLe (S i) (n + i) := fun i hi => by
    have := hs.fLists (l := l.take i) (by simp; omega) (fun r hr => by have := hx r (List.mem_of_mem_take hr); omega)
    rw [hS]; simpa [hi] using this
  refine vc_cut (At [(0, .ptr 0 1 0 0), (1, A), (2, V.i room)] (Rm s)) (by simp -dsimp [At]) ?_
  try clear h
  rintro ⟨sl, hp, bs⟩ ⟨rfl, h⟩
  simp only [sls_cons, sls_one, sls_nil] at h
  refine vc_cut (At [(0, .ptr 0 1 0 0), (1, A), (2, V.i room), (7, .nul 1)] (Rm s ++ [.res])) (by simp -dsimp [h, At]) ?_
  try clear h
  rintro ⟨sl, hp, bs⟩ ⟨rfl, h⟩
  simp only [sls_cons, sls_one, sls_nil] at h
  refine vc_cut (At [(0, .ptr 0 1 0 0), (1, A), (2, V.i room), (7, .own 12 1 0 l.length l.length)] (Rm (s.fLists l) ++ [.res, .mem false [] (l.map (fun r => [vInts r]))])) ?_ ?_
  · refine vc_cut (At [(0, .ptr 0 1 0 0), (1, A), (2, V.i room), (7, .own 12 1 0 0 0), (8, V.i 0)] (Rm s ++ [.res, .mem false [] []])) ?_ ?_
    · simp -dsimp [h]
      refine ⟨_, Weak.ownnul 7 1 (es' := 1) (by simp -dsimp [h]), ?_⟩
      simp -dsimp [h, hA, At]
    try clear h
    rintro ⟨sl, hp, bs⟩ ⟨rfl, h⟩
    simp only [sls_cons, sls_one, sls_nil] at h
    refine vc_block_of (vc_upto 13 (by simp) l.length (fun i st => At [(0, .ptr 0 1 0 0), (1, A), (2, V.i room), (7, .own 12 1 0 i i), (8, V.i i)] (Rm (S i) ++ [.res, .mem false [] (G i)]) st) ?_ ?_)
    · have e1 : S 0 = s := by rw [hS]; rfl
      have e2 : G 0 = [] := by rw [hG]; rfl
      rw [e1, e2]
      exact ⟨rfl, by simpa using h⟩
    clear h
    rintro i ⟨sl, hp, bs⟩ hi ⟨rfl, h⟩
    simp only [sls_cons, sls_one] at h
    unfold hallmarkroom_Room_layLists.b0
    have hCl : (G i).length = i := hGl i hi
    by_cases hil : i < l.length
    · have hil' : (i : Int) < l.length := by omega
      have hw : IntKind.i64.wrap ((i : Int) + 1) = ((i + 1 : Nat) : Int) := by rw [wrap64] <;> omega
      have hbb : ((i : Nat) : Int) * 24 + 24 ≤ 140737488355328 := by omega
      have hb2 : ((i : Int) + 1) * 24 ≤ 140737488355328 := by omega
      simp -dsimp [h, hil, hil', hA, vIntss]
      refine gcallR (layIntsS (S i) l[i] 4 (n + i) (by have := hx l[i] (List.getElem_mem hil); omega) (by omega) (hSle i hi) (by omega)) rfl ?_ ?_ (by simp) ?_
      · simp -dsimp [h, hil, V.idsL, V.ids, addAll, vInts]
      · simp -dsimp [h, hil, V.renL, V.ren, idx]
      · rintro r s' ⟨rfl, rfl⟩
        simp -dsimp [h, hil, hCl, hb2, hw, At, hSs i hil, hGs i hil, vInts]
        exact hA.symm
    · have hil' : ¬ (i : Int) < l.length := by omega
      have e : i = l.length := by omega
      subst e
      have e1 : S l.length = s.fLists l := by rw [hS]; simp
      have e2 : G l.length = l.map (fun r => [vInts r]) := by rw [hG]; simp
      simp -dsimp [h, hil', hA, vIntss, At, e1, e2]
  try clear h
  rintro ⟨sl, hp, bs⟩ ⟨rfl, h⟩
  simp only [sls_cons, sls_one, sls_nil] at h
  obtain ⟨T, hT⟩ : ∃ T, T = s.fLists l := ⟨_, rfl⟩
  have hTl : s.lLists l room = T.addLists (l.map (fun r => [vInts r]) ++ marks mkLists room) (l.length : Int) := by rw [hT]; rfl
  have hTs : T.l.1.length ≤ 1000000000000 ∧ T.l.2.length = T.l.1.length := by
    have := hSle l.length (Nat.le_refl _)
    rw [hS] at this
    simp only [List.take_length] at this
    rw [hT]; exact ⟨this.ok.l.m, this.ok.l.n⟩
  rw [← hT, hTl]
  obtain ⟨rows, hrows⟩ : ∃ rows, rows = l.map (fun r => [vInts r]) := ⟨_, rfl⟩
  have hrlen : rows.length = l.length := by rw [hrows]; simp
  have hrl : (List.take l.length (rows ++ marks mkLists room)) = rows := by rw [← hrlen]; simp
  rw [← hrows]
  have hA2 : A = .view 1 rows := by rw [hA, hrows]; rfl
  have hAc : V.slLen A = l.length := by rw [hA2]; simp [hrlen]
  clear hA hS hSs hSle hG hGs hGl hT hTl
  refine vc_cut (At [(0, .ptr 0 1 0 0), (1, A), (7, .own 12 1 0 (l.length + room) (l.length + room))] (Rm T ++ [.res, .mem false [] (rows ++ marks mkLists room)])) ?_ ?_
  · refine vc_cut (At [(0, .ptr 0 1 0 0), (1, A), (2, V.i room), (7, .own 12 1 0 l.length l.length), (9, V.i 0)] (Rm T ++ [.res, .mem false [] rows])) (by simp -dsimp [h, At]) ?_
    try clear h
    rintro ⟨sl, hp, bs⟩ ⟨rfl, h⟩
    simp only [sls_cons, sls_one, sls_nil] at h
    refine vc_block_of (vc_upto 13 (by simp) room (fun i st => ∃ C, C = rows ++ marks mkLists i ∧ At [(0, .ptr 0 1 0 0), (1, A), (2, V.i room), (7, .own 12 1 0 (l.length + i) (l.length + i)), (9, V.i i)] (Rm T ++ [.res, .mem false [] C]) st) ⟨rows, by simp [marks], rfl, by simpa using h⟩ ?_)
    clear h
    rintro i ⟨sl, hp, bs⟩ hi ⟨C, hC, rfl, h⟩
    simp only [sls_cons, sls_one] at h
    unfold hallmarkroom_Room_layLists.b1
    have hCl : C.length = l.length + i := by rw [hC]; simp [marks_len, hrlen]
    by_cases hil : i < room
    · have hil' : (i : Int) < room := by omega
      have hw : IntKind.i64.wrap ((i : Int) + 1) = ((i + 1 : Nat) : Int) := by rw [wrap64] <;> omega
      have hl := lot_spec i (by omega)
      have hsu := marks_succ mkLists i
      have hbb : ((l.length + i : Nat) : Int) * 24 + 24 ≤ 140737488355328 := by omega
      have hb2 : ((l.length : Int) + (i : Int) + 1) * 24 ≤ 140737488355328 := by omega
      simp -dsimp [h, hil, hil']
      refine gcall (hl) (by simp -dsimp [h, hCl, hb2, At, hw, hil, hAi]) (by simp -dsimp [h, hCl, hb2, At, hw, hil, hAi]) ?_
      simp -dsimp [h, hCl, hb2, At, hw, hil, hAi]
      rw [hC, hsu, List.append_assoc]
      exact ⟨rfl, by omega⟩
    · have hil' : ¬ (i : Int) < room := by omega
      have e : i = room := by omega
      subst e
      simp -dsimp [h, hil', At, hC]
  try clear h
  rintro ⟨sl, hp, bs⟩ ⟨rfl, h⟩
  simp only [sls_cons, sls_one, sls_nil] at h
  obtain ⟨R, hR⟩ : ∃ R, R = O.mem false [1, 2, 3, 4, 5, 6, 7, 8, 9, 10] [rmRow T.i.1.length T.t.1.length T.v.1.length T.l.1.length T.c.1.length] := ⟨_, rfl⟩
  obtain ⟨x1, hx1⟩ : ∃ x : O, x = (O.mem false [] (T.i.1.map fun f => [.view 1 f])) := ⟨_, rfl⟩
  obtain ⟨x2, hx2⟩ : ∃ x : O, x = (O.mem false [] (ri T.i.2)) := ⟨_, rfl⟩
  obtain ⟨x3, hx3⟩ : ∃ x : O, x = (O.mem false [] (T.t.1.map fun f => [.view 2 f])) := ⟨_, rfl⟩
  obtain ⟨x4, hx4⟩ : ∃ x : O, x = (O.mem false [] (ri T.t.2)) := ⟨_, rfl⟩
  obtain ⟨x5, hx5⟩ : ∃ x : O, x = (O.mem false [] (T.v.1.map fun f => [.view 3 f])) := ⟨_, rfl⟩
  obtain ⟨x6, hx6⟩ : ∃ x : O, x = (O.mem false [] (ri T.v.2)) := ⟨_, rfl⟩
  obtain ⟨x7, hx7⟩ : ∃ x : O, x = (O.mem false [] (T.l.1.map fun f => [.view 1 f])) := ⟨_, rfl⟩
  obtain ⟨x8, hx8⟩ : ∃ x : O, x = (O.mem false [] (ri T.l.2)) := ⟨_, rfl⟩
  obtain ⟨x9, hx9⟩ : ∃ x : O, x = (O.mem false [] (T.c.1.map fun f => [.view 10 f])) := ⟨_, rfl⟩
  obtain ⟨x10, hx10⟩ : ∃ x : O, x = (O.mem false [] (ri T.c.2)) := ⟨_, rfl⟩
  have hRm : Rm T = [R, x1, x2, x3, x4, x5, x6, x7, x8, x9, x10] := by rw [hR, hx1, hx2, hx3, hx4, hx5, hx6, hx7, hx8, hx9, hx10]; rfl
  rw [hRm]
  obtain ⟨full, hfull⟩ : ∃ full, full = rows ++ marks mkLists room := ⟨_, rfl⟩
  rw [← hfull] at hrl ⊢
  have hfl : full.length = l.length + room := by rw [hfull]; simp [marks_len, hrlen]
  have ht : List.take (l.length + room) full = full := List.take_of_length_le (by omega)
  obtain ⟨hT1, hT2⟩ := hTs
  have hb3 : ((T.l.1.length : Int) + 1) * 24 ≤ 140737488355328 := by omega
  have hb4 : ((T.l.1.length : Int) + 1) * 8 ≤ 140737488355328 := by omega
  have rl : (ri T.l.2).length = T.l.1.length := by rw [ri_len, hT2]
  have hle : l.length ≤ l.length + room := Nat.le_add_right _ _
  have hli : (l.length : Int) ≤ l.length + room := by omega
  simp -dsimp [h, hfl, ht, hR, rmRow, hx7, hx8, hA2, hrlen, hb3, hb4, rl, hrl, V.isView, V.rowsV, hle, hli, hallmarkroom_Room_layLists.rs]
  refine ⟨[O.res, .mem true [] full, .res, .res, .res, .res], ?_⟩
  simp [Rm, RmS.addLists, rmRow, List.map_append, ri, hx1, hx2, hx3, hx4, hx5, hx6, hx7, hx8, hx9, hx10]
end Go.Abs.G

namespace Go.Abs.G
open Go.Proofs
set_option linter.unusedVariables false
set_option linter.unusedSimpArgs false
theorem con_ids (c : Con) : V.ids (.agg c.cells) = [] := by
  rw [V.ids]
  unfold Con.cells vTerms vInts vIntss
  simp [V.idsL, V.ids, V.i]
@[simp] theorem con_len (c : Con) : c.cells.length = 10 := rfl
@[simp] theorem con_idsL (c : Con) : V.idsL c.cells = [] := con_ids c
@[simp] theorem con_ren (f : Nat → Nat) (c : Con) : V.renL f c.cells = c.cells := by unfold Con.cells vTerms vInts vIntss; simp [V.renL, V.ren, V.i]
@[simp] theorem con_take (c : Con) : List.take 10 c.cells = c.cells := rfl
@[simp] theorem con_drop (c : Con) : List.drop 10 c.cells = [] := rfl

theorem IntsS (s : RmS) (l : List Int) (n : Nat) (h1 : l.length ≤ 1000000) (hs : RmLe s n) (hn : n ≤ 1000000000000) :
    DC Tryz.prog hallmarkroom_Room_Ints.id [.ptr 0 1 0 0, vInts l] (Rm s) (fun r H => (∀ g, r.ren g = r) ∧ ∃ s', (r = vInts l ∧ s' = s.lInts l 40) ∧ H = Rm s') := by
  refine DC.trim (Q := fun r H => r = vInts l ∧ ∃ E, H = Rm (s.lInts l 40) ++ E) ?_ ?_
  rotate_left
  · rintro r H ⟨rfl, E, rfl⟩
    exact ⟨11, by simp, by simp [V.ids, vInts], fun g => rfl, _, ⟨rfl, rfl⟩, by simp⟩
  refine DC.of hallmarkroom_Room_Ints.ok (by simp) ?_
  unfold hallmarkroom_Room_Ints.ir
  obtain ⟨A, hA⟩ : ∃ A, A = vInts l := ⟨_, rfl⟩
  have hAi : A.ids = [] := by rw [hA]; rfl
  have hAr : ∀ g, A.ren g = A := by rw [hA]; exact fun g => rfl
  rw [← hA]
  simp -dsimp
  refine gcallR (F := []) (layIntsS s l 40 n h1  (by omega) hs hn) (List.append_nil _).symm ?_ ?_ (by simp) ?_
  · simp -dsimp [V.idsL, V.ids, addAll, hAi]
  · simp -dsimp [V.renL, V.ren, idx, hA]
    try rfl
  · rintro r s' ⟨rfl, rfl⟩
    rw [← hA]
    simp -dsimp [At, hallmarkroom_Room_Ints.rs, hA]
    done

theorem TermsS (s : RmS) (l : List Term) (n : Nat) (h1 : l.length ≤ 1000000) (hs : RmLe s n) (hn : n ≤ 1000000000000) :
    DC Tryz.prog hallmarkroom_Room_Terms.id [.ptr 0 1 0 0, vTerms l] (Rm s) (fun r H => (∀ g, r.ren g = r) ∧ ∃ s', (r = vTerms l ∧ s' = s.lTerms l 40) ∧ H = Rm s') := by
  refine DC.trim (Q := fun r H => r = vTerms l ∧ ∃ E, H = Rm (s.lTerms l 40) ++ E) ?_ ?_
  rotate_left
  · rintro r H ⟨rfl, E, rfl⟩
    exact ⟨11, by simp, by simp [V.ids, vTerms], fun g => rfl, _, ⟨rfl, rfl⟩, by simp⟩
  refine DC.of hallmarkroom_Room_Terms.ok (by simp) ?_
  unfold hallmarkroom_Room_Terms.ir
  obtain ⟨A, hA⟩ : ∃ A, A = vTerms l := ⟨_, rfl⟩
  have hAi : A.ids = [] := by rw [hA]; rfl
  have hAr : ∀ g, A.ren g = A := by rw [hA]; exact fun g => rfl
  rw [← hA]
  simp -dsimp
  refine gcallR (F := []) (layTermsS s l 40 n h1  (by omega) hs hn) (List.append_nil _).symm ?_ ?_ (by simp) ?_
  · simp -dsimp [V.idsL, V.ids, addAll, hAi]
  · simp -dsimp [V.renL, V.ren, idx, hA]
    try rfl
  · rintro r s' ⟨rfl, rfl⟩
    rw [← hA]
    simp -dsimp [At, hallmarkroom_Room_Terms.rs, hA]
    done

theorem ListsS (s : RmS) (l : List (List Int)) (n : Nat) (h1 : l.length ≤ 20000) (hx : ∀ r ∈ l, r.length ≤ 20000) (hs : RmLe s n) (hn : n + l.length + 1 ≤ 1000000000000) :
    DC Tryz.prog hallmarkroom_Room_Lists.id [.ptr 0 1 0 0, vIntss l] (Rm s) (fun r H => (∀ g, r.ren g = r) ∧ ∃ s', (r = vIntss l ∧ s' = s.lLists l 40) ∧ H = Rm s') := by
  refine DC.trim (Q := fun r H => r = vIntss l ∧ ∃ E, H = Rm (s.lLists l 40) ++ E) ?_ ?_
  rotate_left
  · rintro r H ⟨rfl, E, rfl⟩
    exact ⟨11, by simp, by simp [V.ids, vIntss], fun g => rfl, _, ⟨rfl, rfl⟩, by simp⟩
  refine DC.of hallmarkroom_Room_Lists.ok (by simp) ?_
  unfold hallmarkroom_Room_Lists.ir
  obtain ⟨A, hA⟩ : ∃ A, A = vIntss l := ⟨_, rfl⟩
  have hAi : A.ids = [] := by rw [hA]; rfl
  have hAr : ∀ g, A.ren g = A := by rw [hA]; exact fun g => rfl
  rw [← hA]
  simp -dsimp
  refine gcallR (F := []) (layListsS s l 40 n h1 hx (by omega) hs hn) (List.append_nil _).symm ?_ ?_ (by simp) ?_
  · simp -dsimp [V.idsL, V.ids, addAll, hAi]
  · simp -dsimp [V.renL, V.ren, idx, hA]
    try rfl
  · rintro r s' ⟨rfl, rfl⟩
    rw [← hA]
    simp -dsimp [At, hallmarkroom_Room_Lists.rs, hA]
    done

theorem lay_Con (s : RmS) (c : Con) (n : Nat) (hc : ConLe c) (hs0 : RmLe s n) (hn : n + 20004 ≤ 1000000000000) :
    DC Tryz.prog hallmarkroom_Room_Con.id [.ptr 0 1 0 0, .agg c.cells] (Rm s) (fun r H => (∀ g, r.ren g = r) ∧ ∃ s', (r = .agg c.cells ∧ s' = s.lCon c 40) ∧ H = Rm s') := by
  refine DC.trim (Q := fun r H => r = .agg c.cells ∧ ∃ E, H = Rm (s.lCon c 40) ++ E) ?_ ?_
  rotate_left
  · rintro r H ⟨rfl, E, rfl⟩
    exact ⟨11, by simp, by rw [con_ids]; simp, fun g => rfl, _, ⟨rfl, rfl⟩, by simp⟩
  refine DC.of hallmarkroom_Room_Con.ok (by simp) ?_
  unfold hallmarkroom_Room_Con.ir
  have q1 := hc.terms
  have q2 := hc.xs
  have q3 := hc.table
  have q4 := hc.rows
  have hs1 := hs0.lTerms (l := c.terms) (room := 40) (by omega) (by omega) (by omega)
  have hs2 := hs1.lInts (l := c.xs) (room := 40) (by omega) (by omega) (by omega)
  have hs3 := hs2.lInts (l := c.table) (room := 40) (by omega) (by omega) (by omega)
  obtain ⟨Z, hZ⟩ : ∃ Z, Z = O.mem false [] [[V.i 0, V.i 0, nilS, V.i 0, V.i 0, V.i 0, V.i 0, nilS, nilS, nilS]] := ⟨_, rfl⟩
  have hcl : c.cells.length = 10 := rfl
  have hci : V.idsL c.cells = [] := con_ids c
  refine vc_cut (At [(0, .ptr 0 1 0 0), (3, .ptr 11 1 0 0), (4, .ptr 12 1 0 0)] (Rm s ++ [.mem false [] [c.cells], Z])) (by simp -dsimp [At, hZ, hcl, hci]) ?_
  try clear h
  rintro ⟨sl, hp, bs⟩ ⟨rfl, h⟩
  simp only [sls_cons, sls_one, sls_nil] at h
  refine vc_cut (At [(0, .ptr 0 1 0 0), (3, .ptr 11 1 0 0), (4, .ptr 12 1 0 0)] (Rm (s.lTerms c.terms 40) ++ [.mem false [] [c.cells], Z])) ?_ ?_
  · simp -dsimp [h, hcl, Con.cells]
    refine gcallR (TermsS (s) c.terms (n) (by have := hc.terms; omega) hs0 (by omega)) rfl ?_ ?_ (by simp) ?_
    · simp -dsimp [h, hcl, Con.cells, V.idsL, V.ids, addAll, vTerms, vInts, vIntss]
    · simp -dsimp [h, hcl, Con.cells, V.renL, V.ren, idx, vTerms, vInts, vIntss]
    · rintro r s' ⟨rfl, rfl⟩
      simp -dsimp [h, hcl, Con.cells, At, vTerms, vInts, vIntss]
      try rfl
  try clear h
  rintro ⟨sl, hp, bs⟩ ⟨rfl, h⟩
  simp only [sls_cons, sls_one, sls_nil] at h
  refine vc_cut (At [(0, .ptr 0 1 0 0), (3, .ptr 11 1 0 0), (4, .ptr 12 1 0 0)] (Rm ((s.lTerms c.terms 40).lInts c.xs 40) ++ [.mem false [] [c.cells], Z])) ?_ ?_
  · simp -dsimp [h, hcl, Con.cells]
    refine gcallR (IntsS (s.lTerms c.terms 40) c.xs (n + 1) (by have := hc.xs; omega) hs1 (by omega)) rfl ?_ ?_ (by simp) ?_
    · simp -dsimp [h, hcl, Con.cells, V.idsL, V.ids, addAll, vTerms, vInts, vIntss]
    · simp -dsimp [h, hcl, Con.cells, V.renL, V.ren, idx, vTerms, vInts, vIntss]
    · rintro r s' ⟨rfl, rfl⟩
      simp -dsimp [h, hcl, Con.cells, At, vTerms, vInts, vIntss]
      try rfl
  try clear h
  rintro ⟨sl, hp, bs⟩ ⟨rfl, h⟩
  simp only [sls_cons, sls_one, sls_nil] at h
  refine vc_cut (At [(0, .ptr 0 1 0 0), (3, .ptr 11 1 0 0), (4, .ptr 12 1 0 0)] (Rm (((s.lTerms c.terms 40).lInts c.xs 40).lInts c.table 40) ++ [.mem false [] [c.cells], Z])) ?_ ?_
  · simp -dsimp [h, hcl, Con.cells]
    refine gcallR (IntsS ((s.lTerms c.terms 40).lInts c.xs 40) c.table (n + 1 + 1) (by have := hc.table; omega) hs2 (by omega)) rfl ?_ ?_ (by simp) ?_
    · simp -dsimp [h, hcl, Con.cells, V.idsL, V.ids, addAll, vTerms, vInts, vIntss]
    · simp -dsimp [h, hcl, Con.cells, V.renL, V.ren, idx, vTerms, vInts, vIntss]
    · rintro r s' ⟨rfl, rfl⟩
      simp -dsimp [h, hcl, Con.cells, At, vTerms, vInts, vIntss]
      try rfl
  try clear h
  rintro ⟨sl, hp, bs⟩ ⟨rfl, h⟩
  simp only [sls_cons, sls_one, sls_nil] at h
  refine vc_cut (At [(3, .ptr 11 1 0 0), (4, .ptr 12 1 0 0)] (Rm (s.lCon c 40) ++ [.mem false [] [c.cells], Z])) ?_ ?_
  · simp -dsimp [h, hcl, Con.cells]
    refine gcallR (ListsS (((s.lTerms c.terms 40).lInts c.xs 40).lInts c.table 40) c.rows (n + 1 + 1 + 1) hc.rows hc.row hs3 (by omega)) rfl ?_ ?_ (by simp) ?_
    · simp -dsimp [h, hcl, Con.cells, V.idsL, V.ids, addAll, vTerms, vInts, vIntss]
    · simp -dsimp [h, hcl, Con.cells, V.renL, V.ren, idx, vTerms, vInts, vIntss]
    · rintro r s' ⟨rfl, rfl⟩
      simp -dsimp [h, hcl, Con.cells, At, vTerms, vInts, vIntss]
      try rfl
  try clear h
  rintro ⟨sl, hp, bs⟩ ⟨rfl, h⟩
  simp only [sls_cons, sls_one, sls_nil] at h
  simp -dsimp [h, hcl, At, hZ, hallmarkroom_Room_Con.rs]
  try rfl
end Go.Abs.G

namespace Go.Abs.G
open Go.Proofs
set_option linter.unusedVariables false
set_option linter.unusedSimpArgs false

end Go.Abs.G

namespace Go.Abs.G
open Go.Proofs
set_option linter.unusedVariables false
set_option linter.unusedSimpArgs false
theorem mdl_ids (m : Model) : V.ids (.agg m.cells) = [] := by
  rw [V.ids]
  unfold Model.cells vTerms vVars vCons
  simp [V.idsL, V.ids, V.i]
@[simp] theorem mdl_len (m : Model) : m.cells.length = 4 := rfl
@[simp] theorem mdl_idsL (m : Model) : V.idsL m.cells = [] := mdl_ids m
@[simp] theorem mdl_ren (f : Nat → Nat) (m : Model) : V.renL f m.cells = m.cells := by unfold Model.cells vTerms vVars vCons; simp [V.renL, V.ren, V.i]
@[simp] theorem mdl_take (m : Model) : List.take 4 m.cells = m.cells := rfl
@[simp] theorem mdl_drop (m : Model) : List.drop 4 m.cells = [] := rfl
end Go.Abs.G

namespace Go.Abs.G
open Go.Proofs
set_option linter.unusedVariables false
set_option linter.unusedSimpArgs false

theorem holdInts_spec (s : RmS) (hs : RmOk s) :
    DC Tryz.prog hallmarkroom_Room_holdInts.id [.ptr 0 1 0 0] (Rm s) (fun r H => r = .bool true ∧ H = Rm s) := by
  refine DC.trim (Q := fun r H => r = .bool true ∧ ∃ E, H = Rm s ++ E) ?_ ?_
  rotate_left
  · rintro r H ⟨rfl, E, rfl⟩
    exact ⟨11, by simp, by simp [V.ids, V.bool], rfl, by simp⟩
  refine DC.of hallmarkroom_Room_holdInts.ok (by simp) ?_
  unfold hallmarkroom_Room_holdInts.ir
  obtain ⟨R, hR⟩ : ∃ R, R = O.mem false [1, 2, 3, 4, 5, 6, 7, 8, 9, 10] [rmRow s.i.1.length s.t.1.length s.v.1.length s.l.1.length s.c.1.length] := ⟨_, rfl⟩
  obtain ⟨x1, hx1⟩ : ∃ x : O, x = (O.mem false [] (s.i.1.map fun f => [.view 1 f])) := ⟨_, rfl⟩
  have rx1 : x1.refs = [] := by rw [hx1]; rfl
  obtain ⟨x2, hx2⟩ : ∃ x : O, x = (O.mem false [] (ri s.i.2)) := ⟨_, rfl⟩
  have rx2 : x2.refs = [] := by rw [hx2]; rfl
  obtain ⟨x3, hx3⟩ : ∃ x : O, x = (O.mem false [] (s.t.1.map fun f => [.view 2 f])) := ⟨_, rfl⟩
  have rx3 : x3.refs = [] := by rw [hx3]; rfl
  obtain ⟨x4, hx4⟩ : ∃ x : O, x = (O.mem false [] (ri s.t.2)) := ⟨_, rfl⟩
  have rx4 : x4.refs = [] := by rw [hx4]; rfl
  obtain ⟨x5, hx5⟩ : ∃ x : O, x = (O.mem false [] (s.v.1.map fun f => [.view 3 f])) := ⟨_, rfl⟩
  have rx5 : x5.refs = [] := by rw [hx5]; rfl
  obtain ⟨x6, hx6⟩ : ∃ x : O, x = (O.mem false [] (ri s.v.2)) := ⟨_, rfl⟩
  have rx6 : x6.refs = [] := by rw [hx6]; rfl
  obtain ⟨x7, hx7⟩ : ∃ x : O, x = (O.mem false [] (s.l.1.map fun f => [.view 1 f])) := ⟨_, rfl⟩
  have rx7 : x7.refs = [] := by rw [hx7]; rfl
  obtain ⟨x8, hx8⟩ : ∃ x : O, x = (O.mem false [] (ri s.l.2)) := ⟨_, rfl⟩
  have rx8 : x8.refs = [] := by rw [hx8]; rfl
  obtain ⟨x9, hx9⟩ : ∃ x : O, x = (O.mem false [] (s.c.1.map fun f => [.view 10 f])) := ⟨_, rfl⟩
  have rx9 : x9.refs = [] := by rw [hx9]; rfl
  obtain ⟨x10, hx10⟩ : ∃ x : O, x = (O.mem false [] (ri s.c.2)) := ⟨_, rfl⟩
  have rx10 : x10.refs = [] := by rw [hx10]; rfl
  have hRm : Rm s = [R, x1, x2, x3, x4, x5, x6, x7, x8, x9, x10] := by rw [hR, hx1, hx2, hx3, hx4, hx5, hx6, hx7, hx8, hx9, hx10]; rfl
  rw [hRm]
  obtain ⟨hn, hm, hg⟩ := hs.i
  refine vc_cut (At [(0, .ptr 0 1 0 0)] [R, x1, x2, x3, x4, x5, x6, x7, x8, x9, x10]) (by simp -dsimp [At]) ?_
  try clear h
  rintro ⟨sl, hp, bs⟩ ⟨rfl, h⟩
  simp only [sls_cons, sls_one, sls_nil] at h
  refine vc_cut (At [(0, .ptr 0 1 0 0)] [R, x1, x2, x3, x4, x5, x6, x7, x8, x9, x10]) ?_ ?_
  · refine vc_cut (At [(0, .ptr 0 1 0 0), (3, V.i 0)] [R, x1, x2, x3, x4, x5, x6, x7, x8, x9, x10]) (by simp -dsimp [h, At]) ?_
    try clear h
    rintro ⟨sl, hp, bs⟩ ⟨rfl, h⟩
    simp only [sls_cons, sls_one, sls_nil] at h
    refine vc_block_of (vc_upto 11 (by simp) s.i.1.length (fun i st => At [(0, .ptr 0 1 0 0), (3, V.i i)] [R, x1, x2, x3, x4, x5, x6, x7, x8, x9, x10] st) ⟨rfl, by simpa using h⟩ ?_)
    clear h
    rintro i ⟨sl, hp, bs⟩ hi ⟨rfl, h⟩
    simp only [sls_cons, sls_one] at h
    unfold hallmarkroom_Room_holdInts.b0
    by_cases hil : i < s.i.1.length
    · have hil' : (i : Int) < s.i.1.length := by omega
      have hw : IntKind.i64.wrap ((i : Int) + 1) = ((i + 1 : Nat) : Int) := by rw [wrap64] <;> omega
      obtain ⟨full, hfull⟩ : ∃ full, full = s.i.1[i] := ⟨_, rfl⟩
      obtain ⟨p, hp1, hp2, hp3, hp4⟩ := hg i full (by rw [hfull]; exact List.getElem?_eq_getElem hil)
      have hil2 : i < s.i.2.length := by omega
      have hpi : s.i.2[i] = (p : Int) := by rw [List.getElem?_eq_getElem hil2] at hp1; exact Option.some.inj hp1
      refine vc_cut (At [(0, .ptr 0 1 0 0), (3, V.i i)] [R, x1, x2, x3, x4, x5, x6, x7, x8, x9, x10]) (by simp -dsimp [h, At, hil, hil', hR, rmRow, hx1]) ?_
      try clear h
      rintro ⟨sl, hp, bs⟩ ⟨rfl, h⟩
      simp only [sls_cons, sls_one, sls_nil] at h
      refine vc_cut (At [(0, .ptr 0 1 0 0), (3, V.i i)] [R, x1, x2, x3, x4, x5, x6, x7, x8, x9, x10]) ?_ ?_
      · refine vc_block_of ?_
        refine vc_cut (At [(0, .ptr 0 1 0 0), (3, V.i i), (4, V.i p)] [R, x1, x2, x3, x4, x5, x6, x7, x8, x9, x10]) (by simp -dsimp [h, At, hil, hil2, hn, hpi, hR, rmRow, hx2, ri]) ?_
        try clear h
        rintro ⟨sl, hp, bs⟩ ⟨rfl, h⟩
        simp only [sls_cons, sls_one, sls_nil] at h
        refine vc_cut (At [(0, .ptr 0 1 0 0), (3, V.i i), (4, V.i p), (5, V.i p)] [R, x1, x2, x3, x4, x5, x6, x7, x8, x9, x10]) (by simp -dsimp [h, At]) ?_
        try clear h
        rintro ⟨sl, hp, bs⟩ ⟨rfl, h⟩
        simp only [sls_cons, sls_one, sls_nil] at h
        refine vc_block_of (vc_upto 11 (by simp) (full.length - p) (fun k st => At [(0, .ptr 0 1 0 0), (3, V.i i), (4, V.i p), (5, V.i (p + k : Nat))] [R, x1, x2, x3, x4, x5, x6, x7, x8, x9, x10] st) ⟨rfl, by simpa using h⟩ ?_)
        clear h
        rintro k ⟨sl, hp, bs⟩ hk ⟨rfl, h⟩
        simp only [sls_cons, sls_one] at h
        unfold hallmarkroom_Room_holdInts.b1
        obtain ⟨q, hq⟩ : ∃ q, q = p + k := ⟨_, rfl⟩
        rw [← hq] at h
        by_cases hkl : k < full.length - p
        · have hkf : q < full.length := by omega
          have hkf' : (q : Int) < full.length := by omega
          have hfk : full[q] = mkInts k := by
            have e : q - p = k := by omega
            have := hp4 q (by omega) hkf
            rwa [e] at this
          have hl := lot_spec k (by omega)
          have hwk : IntKind.i64.wrap ((q : Int) + 1) = (p : Int) + ((k : Int) + 1) := by rw [wrap64] <;> omega
          have hws : IntKind.i64.wrap ((q : Int) - (p : Int)) = (k : Int) := by rw [wrap64] <;> omega
          simp -dsimp [h, hil, hil', hR, rmRow, hx1, ← hfull, hkf, hkf', hfk, mkInts, hws, vInts, nilS]
          refine gcall (hl) (by simp -dsimp [h, hil, hil', hR, rmRow, hx1, ← hfull, hkf, hkf', hfk, mkInts, hws, vInts, nilS, hwk, At, hkl, rx1, rx2, rx3, rx4, rx5, rx6, rx7, rx8, rx9, rx10]) (by simp -dsimp [h, hil, hil', hR, rmRow, hx1, ← hfull, hkf, hkf', hfk, mkInts, hws, vInts, nilS, hwk, At, hkl, rx1, rx2, rx3, rx4, rx5, rx6, rx7, rx8, rx9, rx10]) ?_
          simp -dsimp [h, hil, hil', hR, rmRow, hx1, ← hfull, hkf, hkf', hfk, mkInts, hws, vInts, nilS, hwk, At, hkl, rx1, rx2, rx3, rx4, rx5, rx6, rx7, rx8, rx9, rx10]
          done
        · have hkf' : ¬ (q : Int) < full.length := by omega
          have hkf : ¬ q < full.length := by omega
          simp -dsimp [h, hil, hil', hR, rmRow, hx1, ← hfull, hkf', hkf, At]
      try clear h
      rintro ⟨sl, hp, bs⟩ ⟨rfl, h⟩
      simp only [sls_cons, sls_one, sls_nil] at h
      simp -dsimp [h, At, hw, hil, hR, rmRow, rx1, rx2, rx3, rx4, rx5, rx6, rx7, rx8, rx9, rx10]
    · have hil' : ¬ (i : Int) < s.i.1.length := by omega
      simp -dsimp [h, hil, hil', hR, rmRow, hx1, At]
  try clear h
  rintro ⟨sl, hp, bs⟩ ⟨rfl, h⟩
  simp only [sls_cons, sls_one, sls_nil] at h
  simp -dsimp [h, hallmarkroom_Room_holdInts.rs]
  try exact ⟨[], by rw [List.append_nil, hRm]⟩

theorem holdTerms_spec (s : RmS) (hs : RmOk s) :
    DC Tryz.prog hallmarkroom_Room_holdTerms.id [.ptr 0 1 0 0] (Rm s) (fun r H => r = .bool true ∧ H = Rm s) := by
  refine DC.trim (Q := fun r H => r = .bool true ∧ ∃ E, H = Rm s ++ E) ?_ ?_
  rotate_left
  · rintro r H ⟨rfl, E, rfl⟩
    exact ⟨11, by simp, by simp [V.ids, V.bool], rfl, by simp⟩
  refine DC.of hallmarkroom_Room_holdTerms.ok (by simp) ?_
  unfold hallmarkroom_Room_holdTerms.ir
  obtain ⟨R, hR⟩ : ∃ R, R = O.mem false [1, 2, 3, 4, 5, 6, 7, 8, 9, 10] [rmRow s.i.1.length s.t.1.length s.v.1.length s.l.1.length s.c.1.length] := ⟨_, rfl⟩
  obtain ⟨x1, hx1⟩ : ∃ x : O, x = (O.mem false [] (s.i.1.map fun f => [.view 1 f])) := ⟨_, rfl⟩
  have rx1 : x1.refs = [] := by rw [hx1]; rfl
  obtain ⟨x2, hx2⟩ : ∃ x : O, x = (O.mem false [] (ri s.i.2)) := ⟨_, rfl⟩
  have rx2 : x2.refs = [] := by rw [hx2]; rfl
  obtain ⟨x3, hx3⟩ : ∃ x : O, x = (O.mem false [] (s.t.1.map fun f => [.view 2 f])) := ⟨_, rfl⟩
  have rx3 : x3.refs = [] := by rw [hx3]; rfl
  obtain ⟨x4, hx4⟩ : ∃ x : O, x = (O.mem false [] (ri s.t.2)) := ⟨_, rfl⟩
  have rx4 : x4.refs = [] := by rw [hx4]; rfl
  obtain ⟨x5, hx5⟩ : ∃ x : O, x = (O.mem false [] (s.v.1.map fun f => [.view 3 f])) := ⟨_, rfl⟩
  have rx5 : x5.refs = [] := by rw [hx5]; rfl
  obtain ⟨x6, hx6⟩ : ∃ x : O, x = (O.mem false [] (ri s.v.2)) := ⟨_, rfl⟩
  have rx6 : x6.refs = [] := by rw [hx6]; rfl
  obtain ⟨x7, hx7⟩ : ∃ x : O, x = (O.mem false [] (s.l.1.map fun f => [.view 1 f])) := ⟨_, rfl⟩
  have rx7 : x7.refs = [] := by rw [hx7]; rfl
  obtain ⟨x8, hx8⟩ : ∃ x : O, x = (O.mem false [] (ri s.l.2)) := ⟨_, rfl⟩
  have rx8 : x8.refs = [] := by rw [hx8]; rfl
  obtain ⟨x9, hx9⟩ : ∃ x : O, x = (O.mem false [] (s.c.1.map fun f => [.view 10 f])) := ⟨_, rfl⟩
  have rx9 : x9.refs = [] := by rw [hx9]; rfl
  obtain ⟨x10, hx10⟩ : ∃ x : O, x = (O.mem false [] (ri s.c.2)) := ⟨_, rfl⟩
  have rx10 : x10.refs = [] := by rw [hx10]; rfl
  have hRm : Rm s = [R, x1, x2, x3, x4, x5, x6, x7, x8, x9, x10] := by rw [hR, hx1, hx2, hx3, hx4, hx5, hx6, hx7, hx8, hx9, hx10]; rfl
  rw [hRm]
  obtain ⟨hn, hm, hg⟩ := hs.t
  refine vc_cut (At [(0, .ptr 0 1 0 0)] [R, x1, x2, x3, x4, x5, x6, x7, x8, x9, x10]) (by simp -dsimp [At]) ?_
  try clear h
  rintro ⟨sl, hp, bs⟩ ⟨rfl, h⟩
  simp only [sls_cons, sls_one, sls_nil] at h
  refine vc_cut (At [(0, .ptr 0 1 0 0)] [R, x1, x2, x3, x4, x5, x6, x7, x8, x9, x10]) ?_ ?_
  · refine vc_cut (At [(0, .ptr 0 1 0 0), (3, V.i 0)] [R, x1, x2, x3, x4, x5, x6, x7, x8, x9, x10]) (by simp -dsimp [h, At]) ?_
    try clear h
    rintro ⟨sl, hp, bs⟩ ⟨rfl, h⟩
    simp only [sls_cons, sls_one, sls_nil] at h
    refine vc_block_of (vc_upto 11 (by simp) s.t.1.length (fun i st => At [(0, .ptr 0 1 0 0), (3, V.i i)] [R, x1, x2, x3, x4, x5, x6, x7, x8, x9, x10] st) ⟨rfl, by simpa using h⟩ ?_)
    clear h
    rintro i ⟨sl, hp, bs⟩ hi ⟨rfl, h⟩
    simp only [sls_cons, sls_one] at h
    unfold hallmarkroom_Room_holdTerms.b0
    by_cases hil : i < s.t.1.length
    · have hil' : (i : Int) < s.t.1.length := by omega
      have hw : IntKind.i64.wrap ((i : Int) + 1) = ((i + 1 : Nat) : Int) := by rw [wrap64] <;> omega
      obtain ⟨full, hfull⟩ : ∃ full, full = s.t.1[i] := ⟨_, rfl⟩
      obtain ⟨p, hp1, hp2, hp3, hp4⟩ := hg i full (by rw [hfull]; exact List.getElem?_eq_getElem hil)
      have hil2 : i < s.t.2.length := by omega
      have hpi : s.t.2[i] = (p : Int) := by rw [List.getElem?_eq_getElem hil2] at hp1; exact Option.some.inj hp1
      refine vc_cut (At [(0, .ptr 0 1 0 0), (3, V.i i)] [R, x1, x2, x3, x4, x5, x6, x7, x8, x9, x10]) (by simp -dsimp [h, At, hil, hil', hR, rmRow, hx3]) ?_
      try clear h
      rintro ⟨sl, hp, bs⟩ ⟨rfl, h⟩
      simp only [sls_cons, sls_one, sls_nil] at h
      refine vc_cut (At [(0, .ptr 0 1 0 0), (3, V.i i)] [R, x1, x2, x3, x4, x5, x6, x7, x8, x9, x10]) ?_ ?_
      · refine vc_block_of ?_
        refine vc_cut (At [(0, .ptr 0 1 0 0), (3, V.i i), (4, V.i p)] [R, x1, x2, x3, x4, x5, x6, x7, x8, x9, x10]) (by simp -dsimp [h, At, hil, hil2, hn, hpi, hR, rmRow, hx4, ri]) ?_
        try clear h
        rintro ⟨sl, hp, bs⟩ ⟨rfl, h⟩
        simp only [sls_cons, sls_one, sls_nil] at h
        refine vc_cut (At [(0, .ptr 0 1 0 0), (3, V.i i), (4, V.i p), (5, V.i p)] [R, x1, x2, x3, x4, x5, x6, x7, x8, x9, x10]) (by simp -dsimp [h, At]) ?_
        try clear h
        rintro ⟨sl, hp, bs⟩ ⟨rfl, h⟩
        simp only [sls_cons, sls_one, sls_nil] at h
        refine vc_block_of (vc_upto 11 (by simp) (full.length - p) (fun k st => At [(0, .ptr 0 1 0 0), (3, V.i i), (4, V.i p), (5, V.i (p + k : Nat))] [R, x1, x2, x3, x4, x5, x6, x7, x8, x9, x10] st) ⟨rfl, by simpa using h⟩ ?_)
        clear h
        rintro k ⟨sl, hp, bs⟩ hk ⟨rfl, h⟩
        simp only [sls_cons, sls_one] at h
        unfold hallmarkroom_Room_holdTerms.b1
        obtain ⟨q, hq⟩ : ∃ q, q = p + k := ⟨_, rfl⟩
        rw [← hq] at h
        by_cases hkl : k < full.length - p
        · have hkf : q < full.length := by omega
          have hkf' : (q : Int) < full.length := by omega
          have hfk : full[q] = mkTerms k := by
            have e : q - p = k := by omega
            have := hp4 q (by omega) hkf
            rwa [e] at this
          have hl := lot_spec k (by omega)
          have hwk : IntKind.i64.wrap ((q : Int) + 1) = (p : Int) + ((k : Int) + 1) := by rw [wrap64] <;> omega
          have hws : IntKind.i64.wrap ((q : Int) - (p : Int)) = (k : Int) := by rw [wrap64] <;> omega
          simp -dsimp [h, hil, hil', hR, rmRow, hx3, ← hfull, hkf, hkf', hfk, mkTerms, hws, vInts, nilS]
          refine gcall (hl) (by simp -dsimp [h, hil, hil', hR, rmRow, hx3, ← hfull, hkf, hkf', hfk, mkTerms, hws, vInts, nilS, hwk, At, hkl, rx1, rx2, rx3, rx4, rx5, rx6, rx7, rx8, rx9, rx10]) (by simp -dsimp [h, hil, hil', hR, rmRow, hx3, ← hfull, hkf, hkf', hfk, mkTerms, hws, vInts, nilS, hwk, At, hkl, rx1, rx2, rx3, rx4, rx5, rx6, rx7, rx8, rx9, rx10]) ?_
          simp -dsimp [h, hil, hil', hR, rmRow, hx3, ← hfull, hkf, hkf', hfk, mkTerms, hws, vInts, nilS, hwk, At, hkl, rx1, rx2, rx3, rx4, rx5, rx6, rx7, rx8, rx9, rx10]
          done
        · have hkf' : ¬ (q : Int) < full.length := by omega
          have hkf : ¬ q < full.length := by omega
          simp -dsimp [h, hil, hil', hR, rmRow, hx3, ← hfull, hkf', hkf, At]
      try clear h
      rintro ⟨sl, hp, bs⟩ ⟨rfl, h⟩
      simp only [sls_cons, sls_one, sls_nil] at h
      simp -dsimp [h, At, hw, hil, hR, rmRow, rx1, rx2, rx3, rx4, rx5, rx6, rx7, rx8, rx9, rx10]
    · have hil' : ¬ (i : Int) < s.t.1.length := by omega
      simp -dsimp [h, hil, hil', hR, rmRow, hx3, At]
  try clear h
  rintro ⟨sl, hp, bs⟩ ⟨rfl, h⟩
  simp only [sls_cons, sls_one, sls_nil] at h
  simp -dsimp [h, hallmarkroom_Room_holdTerms.rs]
  try exact ⟨[], by rw [List.append_nil, hRm]⟩

theorem holdVars_spec (s : RmS) (hs : RmOk s) :
    DC Tryz.prog hallmarkroom_Room_holdVars.id [.ptr 0 1 0 0] (Rm s) (fun r H => r = .bool true ∧ H = Rm s) := by
  refine DC.trim (Q := fun r H => r = .bool true ∧ ∃ E, H = Rm s ++ E) ?_ ?_
  rotate_left
  · rintro r H ⟨rfl, E, rfl⟩
    exact ⟨11, by simp, by simp [V.ids, V.bool], rfl, by simp⟩
  refine DC.of hallmarkroom_Room_holdVars.ok (by simp) ?_
  unfold hallmarkroom_Room_holdVars.ir
  obtain ⟨R, hR⟩ : ∃ R, R = O.mem false [1, 2, 3, 4, 5, 6, 7, 8, 9, 10] [rmRow s.i.1.length s.t.1.length s.v.1.length s.l.1.length s.c.1.length] := ⟨_, rfl⟩
  obtain ⟨x1, hx1⟩ : ∃ x : O, x = (O.mem false [] (s.i.1.map fun f => [.view 1 f])) := ⟨_, rfl⟩
  have rx1 : x1.refs = [] := by rw [hx1]; rfl
  obtain ⟨x2, hx2⟩ : ∃ x : O, x = (O.mem false [] (ri s.i.2)) := ⟨_, rfl⟩
  have rx2 : x2.refs = [] := by rw [hx2]; rfl
  obtain ⟨x3, hx3⟩ : ∃ x : O, x = (O.mem false [] (s.t.1.map fun f => [.view 2 f])) := ⟨_, rfl⟩
  have rx3 : x3.refs = [] := by rw [hx3]; rfl
  obtain ⟨x4, hx4⟩ : ∃ x : O, x = (O.mem false [] (ri s.t.2)) := ⟨_, rfl⟩
  have rx4 : x4.refs = [] := by rw [hx4]; rfl
  obtain ⟨x5, hx5⟩ : ∃ x : O, x = (O.mem false [] (s.v.1.map fun f => [.view 3 f])) := ⟨_, rfl⟩
  have rx5 : x5.refs = [] := by rw [hx5]; rfl
  obtain ⟨x6, hx6⟩ : ∃ x : O, x = (O.mem false [] (ri s.v.2)) := ⟨_, rfl⟩
  have rx6 : x6.refs = [] := by rw [hx6]; rfl
  obtain ⟨x7, hx7⟩ : ∃ x : O, x = (O.mem false [] (s.l.1.map fun f => [.view 1 f])) := ⟨_, rfl⟩
  have rx7 : x7.refs = [] := by rw [hx7]; rfl
  obtain ⟨x8, hx8⟩ : ∃ x : O, x = (O.mem false [] (ri s.l.2)) := ⟨_, rfl⟩
  have rx8 : x8.refs = [] := by rw [hx8]; rfl
  obtain ⟨x9, hx9⟩ : ∃ x : O, x = (O.mem false [] (s.c.1.map fun f => [.view 10 f])) := ⟨_, rfl⟩
  have rx9 : x9.refs = [] := by rw [hx9]; rfl
  obtain ⟨x10, hx10⟩ : ∃ x : O, x = (O.mem false [] (ri s.c.2)) := ⟨_, rfl⟩
  have rx10 : x10.refs = [] := by rw [hx10]; rfl
  have hRm : Rm s = [R, x1, x2, x3, x4, x5, x6, x7, x8, x9, x10] := by rw [hR, hx1, hx2, hx3, hx4, hx5, hx6, hx7, hx8, hx9, hx10]; rfl
  rw [hRm]
  obtain ⟨hn, hm, hg⟩ := hs.v
  refine vc_cut (At [(0, .ptr 0 1 0 0)] [R, x1, x2, x3, x4, x5, x6, x7, x8, x9, x10]) (by simp -dsimp [At]) ?_
  try clear h
  rintro ⟨sl, hp, bs⟩ ⟨rfl, h⟩
  simp only [sls_cons, sls_one, sls_nil] at h
  refine vc_cut (At [(0, .ptr 0 1 0 0)] [R, x1, x2, x3, x4, x5, x6, x7, x8, x9, x10]) ?_ ?_
  · refine vc_cut (At [(0, .ptr 0 1 0 0), (3, V.i 0)] [R, x1, x2, x3, x4, x5, x6, x7, x8, x9, x10]) (by simp -dsimp [h, At]) ?_
    try clear h
    rintro ⟨sl, hp, bs⟩ ⟨rfl, h⟩
    simp only [sls_cons, sls_one, sls_nil] at h
    refine vc_block_of (vc_upto 11 (by simp) s.v.1.length (fun i st => At [(0, .ptr 0 1 0 0), (3, V.i i)] [R, x1, x2, x3, x4, x5, x6, x7, x8, x9, x10] st) ⟨rfl, by simpa using h⟩ ?_)
    clear h
    rintro i ⟨sl, hp, bs⟩ hi ⟨rfl, h⟩
    simp only [sls_cons, sls_one] at h
    unfold hallmarkroom_Room_holdVars.b0
    by_cases hil : i < s.v.1.length
    · have hil' : (i : Int) < s.v.1.length := by omega
      have hw : IntKind.i64.wrap ((i : Int) + 1) = ((i + 1 : Nat) : Int) := by rw [wrap64] <;> omega
      obtain ⟨full, hfull⟩ : ∃ full, full = s.v.1[i] := ⟨_, rfl⟩
      obtain ⟨p, hp1, hp2, hp3, hp4⟩ := hg i full (by rw [hfull]; exact List.getElem?_eq_getElem hil)
      have hil2 : i < s.v.2.length := by omega
      have hpi : s.v.2[i] = (p : Int) := by rw [List.getElem?_eq_getElem hil2] at hp1; exact Option.some.inj hp1
      refine vc_cut (At [(0, .ptr 0 1 0 0), (3, V.i i)] [R, x1, x2, x3, x4, x5, x6, x7, x8, x9, x10]) (by simp -dsimp [h, At, hil, hil', hR, rmRow, hx5]) ?_
      try clear h
      rintro ⟨sl, hp, bs⟩ ⟨rfl, h⟩
      simp only [sls_cons, sls_one, sls_nil] at h
      refine vc_cut (At [(0, .ptr 0 1 0 0), (3, V.i i)] [R, x1, x2, x3, x4, x5, x6, x7, x8, x9, x10]) ?_ ?_
      · refine vc_block_of ?_
        refine vc_cut (At [(0, .ptr 0 1 0 0), (3, V.i i), (4, V.i p)] [R, x1, x2, x3, x4, x5, x6, x7, x8, x9, x10]) (by simp -dsimp [h, At, hil, hil2, hn, hpi, hR, rmRow, hx6, ri]) ?_
        try clear h
        rintro ⟨sl, hp, bs⟩ ⟨rfl, h⟩
        simp only [sls_cons, sls_one, sls_nil] at h
        refine vc_cut (At [(0, .ptr 0 1 0 0), (3, V.i i), (4, V.i p), (5, V.i p)] [R, x1, x2, x3, x4, x5, x6, x7, x8, x9, x10]) (by simp -dsimp [h, At]) ?_
        try clear h
        rintro ⟨sl, hp, bs⟩ ⟨rfl, h⟩
        simp only [sls_cons, sls_one, sls_nil] at h
        refine vc_block_of (vc_upto 11 (by simp) (full.length - p) (fun k st => At [(0, .ptr 0 1 0 0), (3, V.i i), (4, V.i p), (5, V.i (p + k : Nat))] [R, x1, x2, x3, x4, x5, x6, x7, x8, x9, x10] st) ⟨rfl, by simpa using h⟩ ?_)
        clear h
        rintro k ⟨sl, hp, bs⟩ hk ⟨rfl, h⟩
        simp only [sls_cons, sls_one] at h
        unfold hallmarkroom_Room_holdVars.b1
        obtain ⟨q, hq⟩ : ∃ q, q = p + k := ⟨_, rfl⟩
        rw [← hq] at h
        by_cases hkl : k < full.length - p
        · have hkf : q < full.length := by omega
          have hkf' : (q : Int) < full.length := by omega
          have hfk : full[q] = mkVars k := by
            have e : q - p = k := by omega
            have := hp4 q (by omega) hkf
            rwa [e] at this
          have hl := lot_spec k (by omega)
          have hwk : IntKind.i64.wrap ((q : Int) + 1) = (p : Int) + ((k : Int) + 1) := by rw [wrap64] <;> omega
          have hws : IntKind.i64.wrap ((q : Int) - (p : Int)) = (k : Int) := by rw [wrap64] <;> omega
          simp -dsimp [h, hil, hil', hR, rmRow, hx5, ← hfull, hkf, hkf', hfk, mkVars, hws, vInts, nilS]
          refine gcall (hl) (by simp -dsimp [h, hil, hil', hR, rmRow, hx5, ← hfull, hkf, hkf', hfk, mkVars, hws, vInts, nilS, hwk, At, hkl, rx1, rx2, rx3, rx4, rx5, rx6, rx7, rx8, rx9, rx10]) (by simp -dsimp [h, hil, hil', hR, rmRow, hx5, ← hfull, hkf, hkf', hfk, mkVars, hws, vInts, nilS, hwk, At, hkl, rx1, rx2, rx3, rx4, rx5, rx6, rx7, rx8, rx9, rx10]) ?_
          simp -dsimp [h, hil, hil', hR, rmRow, hx5, ← hfull, hkf, hkf', hfk, mkVars, hws, vInts, nilS, hwk, At, hkl, rx1, rx2, rx3, rx4, rx5, rx6, rx7, rx8, rx9, rx10]
          done
        · have hkf' : ¬ (q : Int) < full.length := by omega
          have hkf : ¬ q < full.length := by omega
          simp -dsimp [h, hil, hil', hR, rmRow, hx5, ← hfull, hkf', hkf, At]
      try clear h
      rintro ⟨sl, hp, bs⟩ ⟨rfl, h⟩
      simp only [sls_cons, sls_one, sls_nil] at h
      simp -dsimp [h, At, hw, hil, hR, rmRow, rx1, rx2, rx3, rx4, rx5, rx6, rx7, rx8, rx9, rx10]
    · have hil' : ¬ (i : Int) < s.v.1.length := by omega
      simp -dsimp [h, hil, hil', hR, rmRow, hx5, At]
  try clear h
  rintro ⟨sl, hp, bs⟩ ⟨rfl, h⟩
  simp only [sls_cons, sls_one, sls_nil] at h
  simp -dsimp [h, hallmarkroom_Room_holdVars.rs]
  try exact ⟨[], by rw [List.append_nil, hRm]⟩

theorem holdLists_spec (s : RmS) (hs : RmOk s) :
    DC Tryz.prog hallmarkroom_Room_holdLists.id [.ptr 0 1 0 0] (Rm s) (fun r H => r = .bool true ∧ H = Rm s) := by
  refine DC.trim (Q := fun r H => r = .bool true ∧ ∃ E, H = Rm s ++ E) ?_ ?_
  rotate_left
  · rintro r H ⟨rfl, E, rfl⟩
    exact ⟨11, by simp, by simp [V.ids, V.bool], rfl, by simp⟩
  refine DC.of hallmarkroom_Room_holdLists.ok (by simp) ?_
  unfold hallmarkroom_Room_holdLists.ir
  obtain ⟨R, hR⟩ : ∃ R, R = O.mem false [1, 2, 3, 4, 5, 6, 7, 8, 9, 10] [rmRow s.i.1.length s.t.1.length s.v.1.length s.l.1.length s.c.1.length] := ⟨_, rfl⟩
  obtain ⟨x1, hx1⟩ : ∃ x : O, x = (O.mem false [] (s.i.1.map fun f => [.view 1 f])) := ⟨_, rfl⟩
  have rx1 : x1.refs = [] := by rw [hx1]; rfl
  obtain ⟨x2, hx2⟩ : ∃ x : O, x = (O.mem false [] (ri s.i.2)) := ⟨_, rfl⟩
  have rx2 : x2.refs = [] := by rw [hx2]; rfl
  obtain ⟨x3, hx3⟩ : ∃ x : O, x = (O.mem false [] (s.t.1.map fun f => [.view 2 f])) := ⟨_, rfl⟩
  have rx3 : x3.refs = [] := by rw [hx3]; rfl
  obtain ⟨x4, hx4⟩ : ∃ x : O, x = (O.mem false [] (ri s.t.2)) := ⟨_, rfl⟩
  have rx4 : x4.refs = [] := by rw [hx4]; rfl
  obtain ⟨x5, hx5⟩ : ∃ x : O, x = (O.mem false [] (s.v.1.map fun f => [.view 3 f])) := ⟨_, rfl⟩
  have rx5 : x5.refs = [] := by rw [hx5]; rfl
  obtain ⟨x6, hx6⟩ : ∃ x : O, x = (O.mem false [] (ri s.v.2)) := ⟨_, rfl⟩
  have rx6 : x6.refs = [] := by rw [hx6]; rfl
  obtain ⟨x7, hx7⟩ : ∃ x : O, x = (O.mem false [] (s.l.1.map fun f => [.view 1 f])) := ⟨_, rfl⟩
  have rx7 : x7.refs = [] := by rw [hx7]; rfl
  obtain ⟨x8, hx8⟩ : ∃ x : O, x = (O.mem false [] (ri s.l.2)) := ⟨_, rfl⟩
  have rx8 : x8.refs = [] := by rw [hx8]; rfl
  obtain ⟨x9, hx9⟩ : ∃ x : O, x = (O.mem false [] (s.c.1.map fun f => [.view 10 f])) := ⟨_, rfl⟩
  have rx9 : x9.refs = [] := by rw [hx9]; rfl
  obtain ⟨x10, hx10⟩ : ∃ x : O, x = (O.mem false [] (ri s.c.2)) := ⟨_, rfl⟩
  have rx10 : x10.refs = [] := by rw [hx10]; rfl
  have hRm : Rm s = [R, x1, x2, x3, x4, x5, x6, x7, x8, x9, x10] := by rw [hR, hx1, hx2, hx3, hx4, hx5, hx6, hx7, hx8, hx9, hx10]; rfl
  rw [hRm]
  obtain ⟨hn, hm, hg⟩ := hs.l
  refine vc_cut (At [(0, .ptr 0 1 0 0)] [R, x1, x2, x3, x4, x5, x6, x7, x8, x9, x10]) (by simp -dsimp [At]) ?_
  try clear h
  rintro ⟨sl, hp, bs⟩ ⟨rfl, h⟩
  simp only [sls_cons, sls_one, sls_nil] at h
  refine vc_cut (At [(0, .ptr 0 1 0 0)] [R, x1, x2, x3, x4, x5, x6, x7, x8, x9, x10]) ?_ ?_
  · refine vc_cut (At [(0, .ptr 0 1 0 0), (3, V.i 0)] [R, x1, x2, x3, x4, x5, x6, x7, x8, x9, x10]) (by simp -dsimp [h, At]) ?_
    try clear h
    rintro ⟨sl, hp, bs⟩ ⟨rfl, h⟩
    simp only [sls_cons, sls_one, sls_nil] at h
    refine vc_block_of (vc_upto 11 (by simp) s.l.1.length (fun i st => At [(0, .ptr 0 1 0 0), (3, V.i i)] [R, x1, x2, x3, x4, x5, x6, x7, x8, x9, x10] st) ⟨rfl, by simpa using h⟩ ?_)
    clear h
    rintro i ⟨sl, hp, bs⟩ hi ⟨rfl, h⟩
    simp only [sls_cons, sls_one] at h
    unfold hallmarkroom_Room_holdLists.b0
    by_cases hil : i < s.l.1.length
    · have hil' : (i : Int) < s.l.1.length := by omega
      have hw : IntKind.i64.wrap ((i : Int) + 1) = ((i + 1 : Nat) : Int) := by rw [wrap64] <;> omega
      obtain ⟨full, hfull⟩ : ∃ full, full = s.l.1[i] := ⟨_, rfl⟩
      obtain ⟨p, hp1, hp2, hp3, hp4⟩ := hg i full (by rw [hfull]; exact List.getElem?_eq_getElem hil)
      have hil2 : i < s.l.2.length := by omega
      have hpi : s.l.2[i] = (p : Int) := by rw [List.getElem?_eq_getElem hil2] at hp1; exact Option.some.inj hp1
      refine vc_cut (At [(0, .ptr 0 1 0 0), (3, V.i i)] [R, x1, x2, x3, x4, x5, x6, x7, x8, x9, x10]) (by simp -dsimp [h, At, hil, hil', hR, rmRow, hx7]) ?_
      try clear h
      rintro ⟨sl, hp, bs⟩ ⟨rfl, h⟩
      simp only [sls_cons, sls_one, sls_nil] at h
      refine vc_cut (At [(0, .ptr 0 1 0 0), (3, V.i i)] [R, x1, x2, x3, x4, x5, x6, x7, x8, x9, x10]) ?_ ?_
      · refine vc_block_of ?_
        refine vc_cut (At [(0, .ptr 0 1 0 0), (3, V.i i), (4, V.i p)] [R, x1, x2, x3, x4, x5, x6, x7, x8, x9, x10]) (by simp -dsimp [h, At, hil, hil2, hn, hpi, hR, rmRow, hx8, ri]) ?_
        try clear h
        rintro ⟨sl, hp, bs⟩ ⟨rfl, h⟩
        simp only [sls_cons, sls_one, sls_nil] at h
        refine vc_cut (At [(0, .ptr 0 1 0 0), (3, V.i i), (4, V.i p), (5, V.i p)] [R, x1, x2, x3, x4, x5, x6, x7, x8, x9, x10]) (by simp -dsimp [h, At]) ?_
        try clear h
        rintro ⟨sl, hp, bs⟩ ⟨rfl, h⟩
        simp only [sls_cons, sls_one, sls_nil] at h
        refine vc_block_of (vc_upto 11 (by simp) (full.length - p) (fun k st => At [(0, .ptr 0 1 0 0), (3, V.i i), (4, V.i p), (5, V.i (p + k : Nat))] [R, x1, x2, x3, x4, x5, x6, x7, x8, x9, x10] st) ⟨rfl, by simpa using h⟩ ?_)
        clear h
        rintro k ⟨sl, hp, bs⟩ hk ⟨rfl, h⟩
        simp only [sls_cons, sls_one] at h
        unfold hallmarkroom_Room_holdLists.b1
        obtain ⟨q, hq⟩ : ∃ q, q = p + k := ⟨_, rfl⟩
        rw [← hq] at h
        by_cases hkl : k < full.length - p
        · have hkf : q < full.length := by omega
          have hkf' : (q : Int) < full.length := by omega
          have hfk : full[q] = mkLists k := by
            have e : q - p = k := by omega
            have := hp4 q (by omega) hkf
            rwa [e] at this
          have hl := lot_spec k (by omega)
          have hwk : IntKind.i64.wrap ((q : Int) + 1) = (p : Int) + ((k : Int) + 1) := by rw [wrap64] <;> omega
          have hws : IntKind.i64.wrap ((q : Int) - (p : Int)) = (k : Int) := by rw [wrap64] <;> omega
          simp -dsimp [h, hil, hil', hR, rmRow, hx7, ← hfull, hkf, hkf', hfk, mkLists, hws, vInts, nilS]
          refine gcall (hl) (by simp -dsimp [h, hil, hil', hR, rmRow, hx7, ← hfull, hkf, hkf', hfk, mkLists, hws, vInts, nilS, hwk, At, hkl, rx1, rx2, rx3, rx4, rx5, rx6, rx7, rx8, rx9, rx10]) (by simp -dsimp [h, hil, hil', hR, rmRow, hx7, ← hfull, hkf, hkf', hfk, mkLists, hws, vInts, nilS, hwk, At, hkl, rx1, rx2, rx3, rx4, rx5, rx6, rx7, rx8, rx9, rx10]) ?_
          simp -dsimp [h, hil, hil', hR, rmRow, hx7, ← hfull, hkf, hkf', hfk, mkLists, hws, vInts, nilS, hwk, At, hkl, rx1, rx2, rx3, rx4, rx5, rx6, rx7, rx8, rx9, rx10]
          done
        · have hkf' : ¬ (q : Int) < full.length := by omega
          have hkf : ¬ q < full.length := by omega
          simp -dsimp [h, hil, hil', hR, rmRow, hx7, ← hfull, hkf', hkf, At]
      try clear h
      rintro ⟨sl, hp, bs⟩ ⟨rfl, h⟩
      simp only [sls_cons, sls_one, sls_nil] at h
      simp -dsimp [h, At, hw, hil, hR, rmRow, rx1, rx2, rx3, rx4, rx5, rx6, rx7, rx8, rx9, rx10]
    · have hil' : ¬ (i : Int) < s.l.1.length := by omega
      simp -dsimp [h, hil, hil', hR, rmRow, hx7, At]
  try clear h
  rintro ⟨sl, hp, bs⟩ ⟨rfl, h⟩
  simp only [sls_cons, sls_one, sls_nil] at h
  simp -dsimp [h, hallmarkroom_Room_holdLists.rs]
  try exact ⟨[], by rw [List.append_nil, hRm]⟩

theorem holdCons_spec (s : RmS) (hs : RmOk s) :
    DC Tryz.prog hallmarkroom_Room_holdCons.id [.ptr 0 1 0 0] (Rm s) (fun r H => r = .bool true ∧ H = Rm s) := by
  refine DC.trim (Q := fun r H => r = .bool true ∧ ∃ E, H = Rm s ++ E) ?_ ?_
  rotate_left
  · rintro r H ⟨rfl, E, rfl⟩
    exact ⟨11, by simp, by simp [V.ids, V.bool], rfl, by simp⟩
  refine DC.of hallmarkroom_Room_holdCons.ok (by simp) ?_
  unfold hallmarkroom_Room_holdCons.ir
  obtain ⟨R, hR⟩ : ∃ R, R = O.mem false [1, 2, 3, 4, 5, 6, 7, 8, 9, 10] [rmRow s.i.1.length s.t.1.length s.v.1.length s.l.1.length s.c.1.length] := ⟨_, rfl⟩
  obtain ⟨x1, hx1⟩ : ∃ x : O, x = (O.mem false [] (s.i.1.map fun f => [.view 1 f])) := ⟨_, rfl⟩
  have rx1 : x1.refs = [] := by rw [hx1]; rfl
  obtain ⟨x2, hx2⟩ : ∃ x : O, x = (O.mem false [] (ri s.i.2)) := ⟨_, rfl⟩
  have rx2 : x2.refs = [] := by rw [hx2]; rfl
  obtain ⟨x3, hx3⟩ : ∃ x : O, x = (O.mem false [] (s.t.1.map fun f => [.view 2 f])) := ⟨_, rfl⟩
  have rx3 : x3.refs = [] := by rw [hx3]; rfl
  obtain ⟨x4, hx4⟩ : ∃ x : O, x = (O.mem false [] (ri s.t.2)) := ⟨_, rfl⟩
  have rx4 : x4.refs = [] := by rw [hx4]; rfl
  obtain ⟨x5, hx5⟩ : ∃ x : O, x = (O.mem false [] (s.v.1.map fun f => [.view 3 f])) := ⟨_, rfl⟩
  have rx5 : x5.refs = [] := by rw [hx5]; rfl
  obtain ⟨x6, hx6⟩ : ∃ x : O, x = (O.mem false [] (ri s.v.2)) := ⟨_, rfl⟩
  have rx6 : x6.refs = [] := by rw [hx6]; rfl
  obtain ⟨x7, hx7⟩ : ∃ x : O, x = (O.mem false [] (s.l.1.map fun f => [.view 1 f])) := ⟨_, rfl⟩
  have rx7 : x7.refs = [] := by rw [hx7]; rfl
  obtain ⟨x8, hx8⟩ : ∃ x : O, x = (O.mem false [] (ri s.l.2)) := ⟨_, rfl⟩
  have rx8 : x8.refs = [] := by rw [hx8]; rfl
  obtain ⟨x9, hx9⟩ : ∃ x : O, x = (O.mem false [] (s.c.1.map fun f => [.view 10 f])) := ⟨_, rfl⟩
  have rx9 : x9.refs = [] := by rw [hx9]; rfl
  obtain ⟨x10, hx10⟩ : ∃ x : O, x = (O.mem false [] (ri s.c.2)) := ⟨_, rfl⟩
  have rx10 : x10.refs = [] := by rw [hx10]; rfl
  have hRm : Rm s = [R, x1, x2, x3, x4, x5, x6, x7, x8, x9, x10] := by rw [hR, hx1, hx2, hx3, hx4, hx5, hx6, hx7, hx8, hx9, hx10]; rfl
  rw [hRm]
  obtain ⟨hn, hm, hg⟩ := hs.c
  refine vc_cut (At [(0, .ptr 0 1 0 0)] [R, x1, x2, x3, x4, x5, x6, x7, x8, x9, x10]) (by simp -dsimp [At]) ?_
  try clear h
  rintro ⟨sl, hp, bs⟩ ⟨rfl, h⟩
  simp only [sls_cons, sls_one, sls_nil] at h
  refine vc_cut (At [(0, .ptr 0 1 0 0)] [R, x1, x2, x3, x4, x5, x6, x7, x8, x9, x10]) ?_ ?_
  · refine vc_cut (At [(0, .ptr 0 1 0 0), (3, V.i 0)] [R, x1, x2, x3, x4, x5, x6, x7, x8, x9, x10]) (by simp -dsimp [h, At]) ?_
    try clear h
    rintro ⟨sl, hp, bs⟩ ⟨rfl, h⟩
    simp only [sls_cons, sls_one, sls_nil] at h
    refine vc_block_of (vc_upto 11 (by simp) s.c.1.length (fun i st => At [(0, .ptr 0 1 0 0), (3, V.i i)] [R, x1, x2, x3, x4, x5, x6, x7, x8, x9, x10] st) ⟨rfl, by simpa using h⟩ ?_)
    clear h
    rintro i ⟨sl, hp, bs⟩ hi ⟨rfl, h⟩
    simp only [sls_cons, sls_one] at h
    unfold hallmarkroom_Room_holdCons.b0
    by_cases hil : i < s.c.1.length
    · have hil' : (i : Int) < s.c.1.length := by omega
      have hw : IntKind.i64.wrap ((i : Int) + 1) = ((i + 1 : Nat) : Int) := by rw [wrap64] <;> omega
      obtain ⟨full, hfull⟩ : ∃ full, full = s.c.1[i] := ⟨_, rfl⟩
      obtain ⟨p, hp1, hp2, hp3, hp4⟩ := hg i full (by rw [hfull]; exact List.getElem?_eq_getElem hil)
      have hil2 : i < s.c.2.length := by omega
      have hpi : s.c.2[i] = (p : Int) := by rw [List.getElem?_eq_getElem hil2] at hp1; exact Option.some.inj hp1
      refine vc_cut (At [(0, .ptr 0 1 0 0), (3, V.i i)] [R, x1, x2, x3, x4, x5, x6, x7, x8, x9, x10]) (by simp -dsimp [h, At, hil, hil', hR, rmRow, hx9]) ?_
      try clear h
      rintro ⟨sl, hp, bs⟩ ⟨rfl, h⟩
      simp only [sls_cons, sls_one, sls_nil] at h
      refine vc_cut (At [(0, .ptr 0 1 0 0), (3, V.i i)] [R, x1, x2, x3, x4, x5, x6, x7, x8, x9, x10]) ?_ ?_
      · refine vc_block_of ?_
        refine vc_cut (At [(0, .ptr 0 1 0 0), (3, V.i i), (4, V.i p)] [R, x1, x2, x3, x4, x5, x6, x7, x8, x9, x10]) (by simp -dsimp [h, At, hil, hil2, hn, hpi, hR, rmRow, hx10, ri]) ?_
        try clear h
        rintro ⟨sl, hp, bs⟩ ⟨rfl, h⟩
        simp only [sls_cons, sls_one, sls_nil] at h
        refine vc_cut (At [(0, .ptr 0 1 0 0), (3, V.i i), (4, V.i p), (5, V.i p)] [R, x1, x2, x3, x4, x5, x6, x7, x8, x9, x10]) (by simp -dsimp [h, At]) ?_
        try clear h
        rintro ⟨sl, hp, bs⟩ ⟨rfl, h⟩
        simp only [sls_cons, sls_one, sls_nil] at h
        refine vc_block_of (vc_upto 11 (by simp) (full.length - p) (fun k st => At [(0, .ptr 0 1 0 0), (3, V.i i), (4, V.i p), (5, V.i (p + k : Nat))] [R, x1, x2, x3, x4, x5, x6, x7, x8, x9, x10] st) ⟨rfl, by simpa using h⟩ ?_)
        clear h
        rintro k ⟨sl, hp, bs⟩ hk ⟨rfl, h⟩
        simp only [sls_cons, sls_one] at h
        unfold hallmarkroom_Room_holdCons.b1
        obtain ⟨q, hq⟩ : ∃ q, q = p + k := ⟨_, rfl⟩
        rw [← hq] at h
        by_cases hkl : k < full.length - p
        · have hkf : q < full.length := by omega
          have hkf' : (q : Int) < full.length := by omega
          have hfk : full[q] = mkCons k := by
            have e : q - p = k := by omega
            have := hp4 q (by omega) hkf
            rwa [e] at this
          have hl := lot_spec k (by omega)
          have hwk : IntKind.i64.wrap ((q : Int) + 1) = (p : Int) + ((k : Int) + 1) := by rw [wrap64] <;> omega
          have hws : IntKind.i64.wrap ((q : Int) - (p : Int)) = (k : Int) := by rw [wrap64] <;> omega
          have w0 : IntKind.i64.wrap (0 : Int) = 0 := by rw [wrap64] <;> omega
          obtain ⟨box, hbox⟩ : ∃ box, box = O.mem false [] [mkCons k] := ⟨_, rfl⟩
          have rbox : box.refs = [] := by rw [hbox]; rfl
          refine vc_cut (At [(0, .ptr 0 1 0 0), (3, V.i i), (4, V.i p), (5, V.i q)] [R, x1, x2, x3, x4, x5, x6, x7, x8, x9, x10]) (by simp -dsimp [h, At, hil, hil', hR, rmRow, hx9, ← hfull, hkf, hkf', hfk, mkCons, hws, vInts, nilS]) ?_
          try clear h
          rintro ⟨sl, hp, bs⟩ ⟨rfl, h⟩
          simp only [sls_cons, sls_one, sls_nil] at h
          refine vc_cut (At [(0, .ptr 0 1 0 0), (3, V.i i), (4, V.i p), (5, V.i q)] [R, x1, x2, x3, x4, x5, x6, x7, x8, x9, x10, box]) ?_ ?_
          · refine vc_block_of ?_
            refine vc_cut (At [(0, .ptr 0 1 0 0), (3, V.i i), (4, V.i p), (5, V.i q), (6, .ptr 11 1 0 0)] [R, x1, x2, x3, x4, x5, x6, x7, x8, x9, x10, box]) (by simp -dsimp [h, At, hbox, hil, hil', hR, rmRow, hx9, ← hfull, hkf, hkf', hfk, mkCons, hws, vInts, nilS]) ?_
            try clear h
            rintro ⟨sl, hp, bs⟩ ⟨rfl, h⟩
            simp only [sls_cons, sls_one, sls_nil] at h
            refine vc_cut (At [(0, .ptr 0 1 0 0), (3, V.i i), (4, V.i p), (5, V.i q), (71, .bool false)] [R, x1, x2, x3, x4, x5, x6, x7, x8, x9, x10, box]) ?_ ?_
            · simp -dsimp [h, hbox, hil, hil', hR, rmRow, hx9, ← hfull, hkf, hkf', hfk, mkCons, hws, vInts, nilS]
              refine gcall (hl) (by simp -dsimp [h, At, hbox, w0, hil, hil', hR, rmRow, hx9, ← hfull, hkf, hkf', hfk, mkCons, hws, vInts, nilS]) (by simp -dsimp [h, At, hbox, w0, hil, hil', hR, rmRow, hx9, ← hfull, hkf, hkf', hfk, mkCons, hws, vInts, nilS]) ?_
              simp -dsimp [h, At, hbox, w0, hil, hil', hR, rmRow, hx9, ← hfull, hkf, hkf', hfk, mkCons, hws, vInts, nilS]
              try rfl
            try clear h
            rintro ⟨sl, hp, bs⟩ ⟨rfl, h⟩
            simp only [sls_cons, sls_one, sls_nil] at h
            simp -dsimp [h, At]
          try clear h
          rintro ⟨sl, hp, bs⟩ ⟨rfl, h⟩
          simp only [sls_cons, sls_one, sls_nil] at h
          simp -dsimp [h, hwk, At, hkl, hR, rmRow, rbox, rx1, rx2, rx3, rx4, rx5, rx6, rx7, rx8, rx9, rx10]
        · have hkf' : ¬ (q : Int) < full.length := by omega
          have hkf : ¬ q < full.length := by omega
          simp -dsimp [h, hil, hil', hR, rmRow, hx9, ← hfull, hkf', hkf, At]
      try clear h
      rintro ⟨sl, hp, bs⟩ ⟨rfl, h⟩
      simp only [sls_cons, sls_one, sls_nil] at h
      simp -dsimp [h, At, hw, hil, hR, rmRow, rx1, rx2, rx3, rx4, rx5, rx6, rx7, rx8, rx9, rx10]
    · have hil' : ¬ (i : Int) < s.c.1.length := by omega
      simp -dsimp [h, hil, hil', hR, rmRow, hx9, At]
  try clear h
  rintro ⟨sl, hp, bs⟩ ⟨rfl, h⟩
  simp only [sls_cons, sls_one, sls_nil] at h
  simp -dsimp [h, hallmarkroom_Room_holdCons.rs]
  try exact ⟨[], by rw [List.append_nil, hRm]⟩
end Go.Abs.G

namespace Go.Abs.G
open Go.Proofs
set_option linter.unusedVariables false
set_option linter.unusedSimpArgs false

theorem holdTexts_spec (s : RmS) (hs : RmOk s) :
    DC Tryz.prog hallmarkroom_Room_holdTexts.id [.ptr 0 1 0 0] (Rm s) (fun r H => r = .bool true ∧ H = Rm s) := by
  refine DC.of hallmarkroom_Room_holdTexts.ok (by simp) ?_
  unfold hallmarkroom_Room_holdTexts.ir
  obtain ⟨n, hn⟩ : ∃ n : Nat, n = 0 := ⟨_, rfl⟩
  refine vc_cut (At [(0, .ptr 0 1 0 0)] (Rm s)) (by simp -dsimp [At]) ?_
  try clear h
  rintro ⟨sl, hp, bs⟩ ⟨rfl, h⟩
  simp only [sls_cons, sls_one, sls_nil] at h
  refine vc_cut (At [(0, .ptr 0 1 0 0)] (Rm s)) ?_ ?_
  · refine vc_cut (At [(0, .ptr 0 1 0 0), (3, V.i 0)] (Rm s)) (by simp -dsimp [h, At]) ?_
    try clear h
    rintro ⟨sl, hp, bs⟩ ⟨rfl, h⟩
    simp only [sls_cons, sls_one, sls_nil] at h
    refine vc_block_of (vc_upto 11 (by simp) 0 (fun i st => At [(0, .ptr 0 1 0 0), (3, V.i i)] (Rm s) st) ⟨rfl, by simpa using h⟩ ?_)
    clear h
    rintro i ⟨sl, hp, bs⟩ hi ⟨rfl, h⟩
    simp only [sls_cons, sls_one] at h
    unfold hallmarkroom_Room_holdTexts.b0
    obtain rfl : i = 0 := by omega
    simp -dsimp [h, Rm, rmRow, nilS, At]
  try clear h
  rintro ⟨sl, hp, bs⟩ ⟨rfl, h⟩
  simp only [sls_cons, sls_one, sls_nil] at h
  simp -dsimp [h, hallmarkroom_Room_holdTexts.rs]

theorem holdPieces_spec (s : RmS) (hs : RmOk s) :
    DC Tryz.prog hallmarkroom_Room_holdPieces.id [.ptr 0 1 0 0] (Rm s) (fun r H => r = .bool true ∧ H = Rm s) := by
  refine DC.of hallmarkroom_Room_holdPieces.ok (by simp) ?_
  unfold hallmarkroom_Room_holdPieces.ir
  obtain ⟨n, hn⟩ : ∃ n : Nat, n = 0 := ⟨_, rfl⟩
  refine vc_cut (At [(0, .ptr 0 1 0 0)] (Rm s)) (by simp -dsimp [At]) ?_
  try clear h
  rintro ⟨sl, hp, bs⟩ ⟨rfl, h⟩
  simp only [sls_cons, sls_one, sls_nil] at h
  refine vc_cut (At [(0, .ptr 0 1 0 0)] (Rm s)) ?_ ?_
  · refine vc_cut (At [(0, .ptr 0 1 0 0), (3, V.i 0)] (Rm s)) (by simp -dsimp [h, At]) ?_
    try clear h
    rintro ⟨sl, hp, bs⟩ ⟨rfl, h⟩
    simp only [sls_cons, sls_one, sls_nil] at h
    refine vc_block_of (vc_upto 11 (by simp) 0 (fun i st => At [(0, .ptr 0 1 0 0), (3, V.i i)] (Rm s) st) ⟨rfl, by simpa using h⟩ ?_)
    clear h
    rintro i ⟨sl, hp, bs⟩ hi ⟨rfl, h⟩
    simp only [sls_cons, sls_one] at h
    unfold hallmarkroom_Room_holdPieces.b0
    obtain rfl : i = 0 := by omega
    simp -dsimp [h, Rm, rmRow, nilS, At]
  try clear h
  rintro ⟨sl, hp, bs⟩ ⟨rfl, h⟩
  simp only [sls_cons, sls_one, sls_nil] at h
  simp -dsimp [h, hallmarkroom_Room_holdPieces.rs]

theorem holdOps_spec (s : RmS) (hs : RmOk s) :
    DC Tryz.prog hallmarkroom_Room_holdOps.id [.ptr 0 1 0 0] (Rm s) (fun r H => r = .bool true ∧ H = Rm s) := by
  refine DC.of hallmarkroom_Room_holdOps.ok (by simp) ?_
  unfold hallmarkroom_Room_holdOps.ir
  obtain ⟨n, hn⟩ : ∃ n : Nat, n = 0 := ⟨_, rfl⟩
  refine vc_cut (At [(0, .ptr 0 1 0 0)] (Rm s)) (by simp -dsimp [At]) ?_
  try clear h
  rintro ⟨sl, hp, bs⟩ ⟨rfl, h⟩
  simp only [sls_cons, sls_one, sls_nil] at h
  refine vc_cut (At [(0, .ptr 0 1 0 0)] (Rm s)) ?_ ?_
  · refine vc_cut (At [(0, .ptr 0 1 0 0), (3, V.i 0)] (Rm s)) (by simp -dsimp [h, At]) ?_
    try clear h
    rintro ⟨sl, hp, bs⟩ ⟨rfl, h⟩
    simp only [sls_cons, sls_one, sls_nil] at h
    refine vc_block_of (vc_upto 11 (by simp) 0 (fun i st => At [(0, .ptr 0 1 0 0), (3, V.i i)] (Rm s) st) ⟨rfl, by simpa using h⟩ ?_)
    clear h
    rintro i ⟨sl, hp, bs⟩ hi ⟨rfl, h⟩
    simp only [sls_cons, sls_one] at h
    unfold hallmarkroom_Room_holdOps.b0
    obtain rfl : i = 0 := by omega
    simp -dsimp [h, Rm, rmRow, nilS, At]
  try clear h
  rintro ⟨sl, hp, bs⟩ ⟨rfl, h⟩
  simp only [sls_cons, sls_one, sls_nil] at h
  simp -dsimp [h, hallmarkroom_Room_holdOps.rs]

theorem holdCuts_spec (s : RmS) (hs : RmOk s) :
    DC Tryz.prog hallmarkroom_Room_holdCuts.id [.ptr 0 1 0 0] (Rm s) (fun r H => r = .bool true ∧ H = Rm s) := by
  refine DC.of hallmarkroom_Room_holdCuts.ok (by simp) ?_
  unfold hallmarkroom_Room_holdCuts.ir
  obtain ⟨n, hn⟩ : ∃ n : Nat, n = 0 := ⟨_, rfl⟩
  refine vc_cut (At [(0, .ptr 0 1 0 0)] (Rm s)) (by simp -dsimp [At]) ?_
  try clear h
  rintro ⟨sl, hp, bs⟩ ⟨rfl, h⟩
  simp only [sls_cons, sls_one, sls_nil] at h
  refine vc_cut (At [(0, .ptr 0 1 0 0)] (Rm s)) ?_ ?_
  · refine vc_cut (At [(0, .ptr 0 1 0 0), (3, V.i 0)] (Rm s)) (by simp -dsimp [h, At]) ?_
    try clear h
    rintro ⟨sl, hp, bs⟩ ⟨rfl, h⟩
    simp only [sls_cons, sls_one, sls_nil] at h
    refine vc_block_of (vc_upto 11 (by simp) 0 (fun i st => At [(0, .ptr 0 1 0 0), (3, V.i i)] (Rm s) st) ⟨rfl, by simpa using h⟩ ?_)
    clear h
    rintro i ⟨sl, hp, bs⟩ hi ⟨rfl, h⟩
    simp only [sls_cons, sls_one] at h
    unfold hallmarkroom_Room_holdCuts.b0
    obtain rfl : i = 0 := by omega
    simp -dsimp [h, Rm, rmRow, nilS, At]
  try clear h
  rintro ⟨sl, hp, bs⟩ ⟨rfl, h⟩
  simp only [sls_cons, sls_one, sls_nil] at h
  simp -dsimp [h, hallmarkroom_Room_holdCuts.rs]

theorem holdMeans_spec (s : RmS) (hs : RmOk s) :
    DC Tryz.prog hallmarkroom_Room_holdMeans.id [.ptr 0 1 0 0] (Rm s) (fun r H => r = .bool true ∧ H = Rm s) := by
  refine DC.of hallmarkroom_Room_holdMeans.ok (by simp) ?_
  unfold hallmarkroom_Room_holdMeans.ir
  obtain ⟨n, hn⟩ : ∃ n : Nat, n = 0 := ⟨_, rfl⟩
  refine vc_cut (At [(0, .ptr 0 1 0 0)] (Rm s)) (by simp -dsimp [At]) ?_
  try clear h
  rintro ⟨sl, hp, bs⟩ ⟨rfl, h⟩
  simp only [sls_cons, sls_one, sls_nil] at h
  refine vc_cut (At [(0, .ptr 0 1 0 0)] (Rm s)) ?_ ?_
  · refine vc_cut (At [(0, .ptr 0 1 0 0), (3, V.i 0)] (Rm s)) (by simp -dsimp [h, At]) ?_
    try clear h
    rintro ⟨sl, hp, bs⟩ ⟨rfl, h⟩
    simp only [sls_cons, sls_one, sls_nil] at h
    refine vc_block_of (vc_upto 11 (by simp) 0 (fun i st => At [(0, .ptr 0 1 0 0), (3, V.i i)] (Rm s) st) ⟨rfl, by simpa using h⟩ ?_)
    clear h
    rintro i ⟨sl, hp, bs⟩ hi ⟨rfl, h⟩
    simp only [sls_cons, sls_one] at h
    unfold hallmarkroom_Room_holdMeans.b0
    obtain rfl : i = 0 := by omega
    simp -dsimp [h, Rm, rmRow, nilS, At]
  try clear h
  rintro ⟨sl, hp, bs⟩ ⟨rfl, h⟩
  simp only [sls_cons, sls_one, sls_nil] at h
  simp -dsimp [h, hallmarkroom_Room_holdMeans.rs]

theorem holdRows_spec (s : RmS) (hs : RmOk s) :
    DC Tryz.prog hallmarkroom_Room_holdRows.id [.ptr 0 1 0 0] (Rm s) (fun r H => r = .bool true ∧ H = Rm s) := by
  refine DC.of hallmarkroom_Room_holdRows.ok (by simp) ?_
  unfold hallmarkroom_Room_holdRows.ir
  obtain ⟨n, hn⟩ : ∃ n : Nat, n = 0 := ⟨_, rfl⟩
  refine vc_cut (At [(0, .ptr 0 1 0 0)] (Rm s)) (by simp -dsimp [At]) ?_
  try clear h
  rintro ⟨sl, hp, bs⟩ ⟨rfl, h⟩
  simp only [sls_cons, sls_one, sls_nil] at h
  refine vc_cut (At [(0, .ptr 0 1 0 0)] (Rm s)) ?_ ?_
  · refine vc_cut (At [(0, .ptr 0 1 0 0), (3, V.i 0)] (Rm s)) (by simp -dsimp [h, At]) ?_
    try clear h
    rintro ⟨sl, hp, bs⟩ ⟨rfl, h⟩
    simp only [sls_cons, sls_one, sls_nil] at h
    refine vc_block_of (vc_upto 11 (by simp) 0 (fun i st => At [(0, .ptr 0 1 0 0), (3, V.i i)] (Rm s) st) ⟨rfl, by simpa using h⟩ ?_)
    clear h
    rintro i ⟨sl, hp, bs⟩ hi ⟨rfl, h⟩
    simp only [sls_cons, sls_one] at h
    unfold hallmarkroom_Room_holdRows.b0
    obtain rfl : i = 0 := by omega
    simp -dsimp [h, Rm, rmRow, nilS, At]
  try clear h
  rintro ⟨sl, hp, bs⟩ ⟨rfl, h⟩
  simp only [sls_cons, sls_one, sls_nil] at h
  simp -dsimp [h, hallmarkroom_Room_holdRows.rs]

theorem holdSteps_spec (s : RmS) (hs : RmOk s) :
    DC Tryz.prog hallmarkroom_Room_holdSteps.id [.ptr 0 1 0 0] (Rm s) (fun r H => r = .bool true ∧ H = Rm s) := by
  refine DC.of hallmarkroom_Room_holdSteps.ok (by simp) ?_
  unfold hallmarkroom_Room_holdSteps.ir
  obtain ⟨n, hn⟩ : ∃ n : Nat, n = 0 := ⟨_, rfl⟩
  refine vc_cut (At [(0, .ptr 0 1 0 0)] (Rm s)) (by simp -dsimp [At]) ?_
  try clear h
  rintro ⟨sl, hp, bs⟩ ⟨rfl, h⟩
  simp only [sls_cons, sls_one, sls_nil] at h
  refine vc_cut (At [(0, .ptr 0 1 0 0)] (Rm s)) ?_ ?_
  · refine vc_cut (At [(0, .ptr 0 1 0 0), (3, V.i 0)] (Rm s)) (by simp -dsimp [h, At]) ?_
    try clear h
    rintro ⟨sl, hp, bs⟩ ⟨rfl, h⟩
    simp only [sls_cons, sls_one, sls_nil] at h
    refine vc_block_of (vc_upto 11 (by simp) 0 (fun i st => At [(0, .ptr 0 1 0 0), (3, V.i i)] (Rm s) st) ⟨rfl, by simpa using h⟩ ?_)
    clear h
    rintro i ⟨sl, hp, bs⟩ hi ⟨rfl, h⟩
    simp only [sls_cons, sls_one] at h
    unfold hallmarkroom_Room_holdSteps.b0
    obtain rfl : i = 0 := by omega
    simp -dsimp [h, Rm, rmRow, nilS, At]
  try clear h
  rintro ⟨sl, hp, bs⟩ ⟨rfl, h⟩
  simp only [sls_cons, sls_one, sls_nil] at h
  simp -dsimp [h, hallmarkroom_Room_holdSteps.rs]

theorem holdCauses_spec (s : RmS) (hs : RmOk s) :
    DC Tryz.prog hallmarkroom_Room_holdCauses.id [.ptr 0 1 0 0] (Rm s) (fun r H => r = .bool true ∧ H = Rm s) := by
  refine DC.of hallmarkroom_Room_holdCauses.ok (by simp) ?_
  unfold hallmarkroom_Room_holdCauses.ir
  obtain ⟨n, hn⟩ : ∃ n : Nat, n = 0 := ⟨_, rfl⟩
  refine vc_cut (At [(0, .ptr 0 1 0 0)] (Rm s)) (by simp -dsimp [At]) ?_
  try clear h
  rintro ⟨sl, hp, bs⟩ ⟨rfl, h⟩
  simp only [sls_cons, sls_one, sls_nil] at h
  refine vc_cut (At [(0, .ptr 0 1 0 0)] (Rm s)) ?_ ?_
  · refine vc_cut (At [(0, .ptr 0 1 0 0), (3, V.i 0)] (Rm s)) (by simp -dsimp [h, At]) ?_
    try clear h
    rintro ⟨sl, hp, bs⟩ ⟨rfl, h⟩
    simp only [sls_cons, sls_one, sls_nil] at h
    refine vc_block_of (vc_upto 11 (by simp) 0 (fun i st => At [(0, .ptr 0 1 0 0), (3, V.i i)] (Rm s) st) ⟨rfl, by simpa using h⟩ ?_)
    clear h
    rintro i ⟨sl, hp, bs⟩ hi ⟨rfl, h⟩
    simp only [sls_cons, sls_one] at h
    unfold hallmarkroom_Room_holdCauses.b0
    obtain rfl : i = 0 := by omega
    simp -dsimp [h, Rm, rmRow, nilS, At]
  try clear h
  rintro ⟨sl, hp, bs⟩ ⟨rfl, h⟩
  simp only [sls_cons, sls_one, sls_nil] at h
  simp -dsimp [h, hallmarkroom_Room_holdCauses.rs]

theorem holdActs_spec (s : RmS) (hs : RmOk s) :
    DC Tryz.prog hallmarkroom_Room_holdActs.id [.ptr 0 1 0 0] (Rm s) (fun r H => r = .bool true ∧ H = Rm s) := by
  refine DC.of hallmarkroom_Room_holdActs.ok (by simp) ?_
  unfold hallmarkroom_Room_holdActs.ir
  obtain ⟨n, hn⟩ : ∃ n : Nat, n = 0 := ⟨_, rfl⟩
  refine vc_cut (At [(0, .ptr 0 1 0 0)] (Rm s)) (by simp -dsimp [At]) ?_
  try clear h
  rintro ⟨sl, hp, bs⟩ ⟨rfl, h⟩
  simp only [sls_cons, sls_one, sls_nil] at h
  refine vc_cut (At [(0, .ptr 0 1 0 0)] (Rm s)) ?_ ?_
  · refine vc_cut (At [(0, .ptr 0 1 0 0), (3, V.i 0)] (Rm s)) (by simp -dsimp [h, At]) ?_
    try clear h
    rintro ⟨sl, hp, bs⟩ ⟨rfl, h⟩
    simp only [sls_cons, sls_one, sls_nil] at h
    refine vc_block_of (vc_upto 11 (by simp) 0 (fun i st => At [(0, .ptr 0 1 0 0), (3, V.i i)] (Rm s) st) ⟨rfl, by simpa using h⟩ ?_)
    clear h
    rintro i ⟨sl, hp, bs⟩ hi ⟨rfl, h⟩
    simp only [sls_cons, sls_one] at h
    unfold hallmarkroom_Room_holdActs.b0
    obtain rfl : i = 0 := by omega
    simp -dsimp [h, Rm, rmRow, nilS, At]
  try clear h
  rintro ⟨sl, hp, bs⟩ ⟨rfl, h⟩
  simp only [sls_cons, sls_one, sls_nil] at h
  simp -dsimp [h, hallmarkroom_Room_holdActs.rs]

theorem holdS {f : FuncId} {s : RmS} (h : DC Tryz.prog f [.ptr 0 1 0 0] (Rm s) (fun r H => r = .bool true ∧ H = Rm s)) : DC Tryz.prog f [.ptr 0 1 0 0] (Rm s) (fun r H => (∀ g, r.ren g = r) ∧ ∃ s', (r = .bool true ∧ s' = s) ∧ H = Rm s') :=
  DC.mono h fun r H ⟨hr, hH⟩ => ⟨fun g => by rw [hr]; rfl, s, ⟨hr, rfl⟩, hH⟩
theorem Hold_spec (s : RmS) (hs : RmOk s) :
    DC Tryz.prog hallmarkroom_Room_Hold.id [.ptr 0 1 0 0] (Rm s) (fun r H => (∀ g, r.ren g = r) ∧ ∃ s', (r = .bool true ∧ s' = s) ∧ H = Rm s') := by
  refine holdS ?_
  refine DC.of hallmarkroom_Room_Hold.ok (by simp) ?_
  unfold hallmarkroom_Room_Hold.ir
  refine vc_cut (At [(0, .ptr 0 1 0 0)] (Rm s)) (by simp -dsimp [At]) ?_
  try clear h
  rintro ⟨sl, hp, bs⟩ ⟨rfl, h⟩
  simp only [sls_cons, sls_one, sls_nil] at h
  refine vc_cut (At [(0, .ptr 0 1 0 0), (3, .bool true)] (Rm s)) (by simp -dsimp [h, At]) ?_
  try clear h
  rintro ⟨sl, hp, bs⟩ ⟨rfl, h⟩
  simp only [sls_cons, sls_one, sls_nil] at h
  refine vc_cut (At [(0, .ptr 0 1 0 0), (3, .bool true)] (Rm s)) ?_ ?_
  · simp -dsimp [h]
    refine gcallR (F := []) (holdS (holdInts_spec s hs)) (List.append_nil _).symm ?_ ?_ (by simp) ?_
    · simp -dsimp [h, V.idsL, V.ids, addAll]
    · simp -dsimp [h, V.renL, V.ren, idx]
    · rintro r s' ⟨rfl, rfl⟩
      simp -dsimp [h, At]
  try clear h
  rintro ⟨sl, hp, bs⟩ ⟨rfl, h⟩
  simp only [sls_cons, sls_one, sls_nil] at h
  refine vc_cut (At [(0, .ptr 0 1 0 0), (3, .bool true)] (Rm s)) ?_ ?_
  · simp -dsimp [h]
    refine gcallR (F := []) (holdS (holdTexts_spec s hs)) (List.append_nil _).symm ?_ ?_ (by simp) ?_
    · simp -dsimp [h, V.idsL, V.ids, addAll]
    · simp -dsimp [h, V.renL, V.ren, idx]
    · rintro r s' ⟨rfl, rfl⟩
      simp -dsimp [h, At]
  try clear h
  rintro ⟨sl, hp, bs⟩ ⟨rfl, h⟩
  simp only [sls_cons, sls_one, sls_nil] at h
  refine vc_cut (At [(0, .ptr 0 1 0 0), (3, .bool true)] (Rm s)) ?_ ?_
  · simp -dsimp [h]
    refine gcallR (F := []) (holdS (holdTerms_spec s hs)) (List.append_nil _).symm ?_ ?_ (by simp) ?_
    · simp -dsimp [h, V.idsL, V.ids, addAll]
    · simp -dsimp [h, V.renL, V.ren, idx]
    · rintro r s' ⟨rfl, rfl⟩
      simp -dsimp [h, At]
  try clear h
  rintro ⟨sl, hp, bs⟩ ⟨rfl, h⟩
  simp only [sls_cons, sls_one, sls_nil] at h
  refine vc_cut (At [(0, .ptr 0 1 0 0), (3, .bool true)] (Rm s)) ?_ ?_
  · simp -dsimp [h]
    refine gcallR (F := []) (holdS (holdVars_spec s hs)) (List.append_nil _).symm ?_ ?_ (by simp) ?_
    · simp -dsimp [h, V.idsL, V.ids, addAll]
    · simp -dsimp [h, V.renL, V.ren, idx]
    · rintro r s' ⟨rfl, rfl⟩
      simp -dsimp [h, At]
  try clear h
  rintro ⟨sl, hp, bs⟩ ⟨rfl, h⟩
  simp only [sls_cons, sls_one, sls_nil] at h
  refine vc_cut (At [(0, .ptr 0 1 0 0), (3, .bool true)] (Rm s)) ?_ ?_
  · simp -dsimp [h]
    refine gcallR (F := []) (holdS (holdPieces_spec s hs)) (List.append_nil _).symm ?_ ?_ (by simp) ?_
    · simp -dsimp [h, V.idsL, V.ids, addAll]
    · simp -dsimp [h, V.renL, V.ren, idx]
    · rintro r s' ⟨rfl, rfl⟩
      simp -dsimp [h, At]
  try clear h
  rintro ⟨sl, hp, bs⟩ ⟨rfl, h⟩
  simp only [sls_cons, sls_one, sls_nil] at h
  refine vc_cut (At [(0, .ptr 0 1 0 0), (3, .bool true)] (Rm s)) ?_ ?_
  · simp -dsimp [h]
    refine gcallR (F := []) (holdS (holdOps_spec s hs)) (List.append_nil _).symm ?_ ?_ (by simp) ?_
    · simp -dsimp [h, V.idsL, V.ids, addAll]
    · simp -dsimp [h, V.renL, V.ren, idx]
    · rintro r s' ⟨rfl, rfl⟩
      simp -dsimp [h, At]
  try clear h
  rintro ⟨sl, hp, bs⟩ ⟨rfl, h⟩
  simp only [sls_cons, sls_one, sls_nil] at h
  refine vc_cut (At [(0, .ptr 0 1 0 0), (3, .bool true)] (Rm s)) ?_ ?_
  · simp -dsimp [h]
    refine gcallR (F := []) (holdS (holdCuts_spec s hs)) (List.append_nil _).symm ?_ ?_ (by simp) ?_
    · simp -dsimp [h, V.idsL, V.ids, addAll]
    · simp -dsimp [h, V.renL, V.ren, idx]
    · rintro r s' ⟨rfl, rfl⟩
      simp -dsimp [h, At]
  try clear h
  rintro ⟨sl, hp, bs⟩ ⟨rfl, h⟩
  simp only [sls_cons, sls_one, sls_nil] at h
  refine vc_cut (At [(0, .ptr 0 1 0 0), (3, .bool true)] (Rm s)) ?_ ?_
  · simp -dsimp [h]
    refine gcallR (F := []) (holdS (holdMeans_spec s hs)) (List.append_nil _).symm ?_ ?_ (by simp) ?_
    · simp -dsimp [h, V.idsL, V.ids, addAll]
    · simp -dsimp [h, V.renL, V.ren, idx]
    · rintro r s' ⟨rfl, rfl⟩
      simp -dsimp [h, At]
  try clear h
  rintro ⟨sl, hp, bs⟩ ⟨rfl, h⟩
  simp only [sls_cons, sls_one, sls_nil] at h
  refine vc_cut (At [(0, .ptr 0 1 0 0), (3, .bool true)] (Rm s)) ?_ ?_
  · simp -dsimp [h]
    refine gcallR (F := []) (holdS (holdLists_spec s hs)) (List.append_nil _).symm ?_ ?_ (by simp) ?_
    · simp -dsimp [h, V.idsL, V.ids, addAll]
    · simp -dsimp [h, V.renL, V.ren, idx]
    · rintro r s' ⟨rfl, rfl⟩
      simp -dsimp [h, At]
  try clear h
  rintro ⟨sl, hp, bs⟩ ⟨rfl, h⟩
  simp only [sls_cons, sls_one, sls_nil] at h
  refine vc_cut (At [(0, .ptr 0 1 0 0), (3, .bool true)] (Rm s)) ?_ ?_
  · simp -dsimp [h]
    refine gcallR (F := []) (holdS (holdCons_spec s hs)) (List.append_nil _).symm ?_ ?_ (by simp) ?_
    · simp -dsimp [h, V.idsL, V.ids, addAll]
    · simp -dsimp [h, V.renL, V.ren, idx]
    · rintro r s' ⟨rfl, rfl⟩
      simp -dsimp [h, At]
  try clear h
  rintro ⟨sl, hp, bs⟩ ⟨rfl, h⟩
  simp only [sls_cons, sls_one, sls_nil] at h
  refine vc_cut (At [(0, .ptr 0 1 0 0), (3, .bool true)] (Rm s)) ?_ ?_
  · simp -dsimp [h]
    refine gcallR (F := []) (holdS (holdRows_spec s hs)) (List.append_nil _).symm ?_ ?_ (by simp) ?_
    · simp -dsimp [h, V.idsL, V.ids, addAll]
    · simp -dsimp [h, V.renL, V.ren, idx]
    · rintro r s' ⟨rfl, rfl⟩
      simp -dsimp [h, At]
  try clear h
  rintro ⟨sl, hp, bs⟩ ⟨rfl, h⟩
  simp only [sls_cons, sls_one, sls_nil] at h
  refine vc_cut (At [(0, .ptr 0 1 0 0), (3, .bool true)] (Rm s)) ?_ ?_
  · simp -dsimp [h]
    refine gcallR (F := []) (holdS (holdSteps_spec s hs)) (List.append_nil _).symm ?_ ?_ (by simp) ?_
    · simp -dsimp [h, V.idsL, V.ids, addAll]
    · simp -dsimp [h, V.renL, V.ren, idx]
    · rintro r s' ⟨rfl, rfl⟩
      simp -dsimp [h, At]
  try clear h
  rintro ⟨sl, hp, bs⟩ ⟨rfl, h⟩
  simp only [sls_cons, sls_one, sls_nil] at h
  refine vc_cut (At [(0, .ptr 0 1 0 0), (3, .bool true)] (Rm s)) ?_ ?_
  · simp -dsimp [h]
    refine gcallR (F := []) (holdS (holdCauses_spec s hs)) (List.append_nil _).symm ?_ ?_ (by simp) ?_
    · simp -dsimp [h, V.idsL, V.ids, addAll]
    · simp -dsimp [h, V.renL, V.ren, idx]
    · rintro r s' ⟨rfl, rfl⟩
      simp -dsimp [h, At]
  try clear h
  rintro ⟨sl, hp, bs⟩ ⟨rfl, h⟩
  simp only [sls_cons, sls_one, sls_nil] at h
  refine vc_cut (At [(3, .bool true)] (Rm s)) ?_ ?_
  · simp -dsimp [h]
    refine gcallR (F := []) (holdS (holdActs_spec s hs)) (List.append_nil _).symm ?_ ?_ (by simp) ?_
    · simp -dsimp [h, V.idsL, V.ids, addAll]
    · simp -dsimp [h, V.renL, V.ren, idx]
    · rintro r s' ⟨rfl, rfl⟩
      simp -dsimp [h, At]
  try clear h
  rintro ⟨sl, hp, bs⟩ ⟨rfl, h⟩
  simp only [sls_cons, sls_one, sls_nil] at h
  simp -dsimp [h, hallmarkroom_Room_Hold.rs]
end Go.Abs.G

namespace Go.Abs.G
open Go.Proofs
set_option linter.unusedVariables false
set_option linter.unusedSimpArgs false


theorem sameIntsR_self (a : List Int) (ha : a.length ≤ maxLen) : Pf Tryz.prog hallmarkref4_sameInts.id [vInts a, vInts a] (.bool true) := by
  have hM : (maxLen : Int) ≤ 9223372036854775807 := by decide
  refine DC.of hallmarkref4_sameInts.ok (by simp) ?_
  unfold hallmarkref4_sameInts.ir
  obtain ⟨A, hA⟩ : ∃ A, A = vInts a := ⟨_, rfl⟩
  have hAi : A.ids = [] := by rw [hA]; rfl
  rw [← hA]
  refine vc_cut (At [(0, A), (1, A)] []) (by simp -dsimp [At]) ?_
  try clear h
  rintro ⟨sl, hp, bs⟩ ⟨rfl, h⟩
  simp only [sls_cons, sls_one, sls_nil] at h
  refine vc_cut (At [(0, A), (1, A)] []) (by simp -dsimp [h, At, hA, vInts]) ?_
  try clear h
  rintro ⟨sl, hp, bs⟩ ⟨rfl, h⟩
  simp only [sls_cons, sls_one, sls_nil] at h
  refine vc_cut (At [] []) ?_ ?_
  · refine vc_cut (At [(0, A), (1, A), (5, V.i 0)] []) (by simp -dsimp [h, At]) ?_
    try clear h
    rintro ⟨sl, hp, bs⟩ ⟨rfl, h⟩
    simp only [sls_cons, sls_one, sls_nil] at h
    refine vc_block_of (vc_upto 0 (by simp) a.length (fun i st => At [(0, A), (1, A), (5, V.i i)] [] st) ⟨rfl, by simpa using h⟩ ?_)
    clear h
    rintro i ⟨sl, hp, bs⟩ hi ⟨rfl, h⟩
    simp only [sls_cons, sls_one] at h
    unfold hallmarkref4_sameInts.b0
    by_cases hil : i < a.length
    · have hil' : (i : Int) < a.length := by omega
      have hw : IntKind.i64.wrap ((i : Int) + 1) = ((i + 1 : Nat) : Int) := by rw [wrap64] <;> omega
      refine vc_cut (At [(0, A), (1, A), (5, V.i i)] []) (by simp -dsimp [h, At, hil, hil', hA, vInts]) ?_
      try clear h
      rintro ⟨sl, hp, bs⟩ ⟨rfl, h⟩
      simp only [sls_cons, sls_one, sls_nil] at h
      rw [hA] at h
      refine vc_cut (At [(0, A), (1, A), (5, V.i i)] []) ?_ ?_
      · rw [hA]
        refine vc_block_of ?_
        simp -dsimp [h, At, hil, vInts]
      try clear h
      rintro ⟨sl, hp, bs⟩ ⟨rfl, h⟩
      simp only [sls_cons, sls_one, sls_nil] at h
      simp -dsimp [h, At, hw, hil, hAi]
    · have hil' : ¬ (i : Int) < a.length := by omega
      simp -dsimp [h, hil, hil', hA, vInts, At]
  try clear h
  rintro ⟨sl, hp, bs⟩ ⟨rfl, h⟩
  simp only [sls_cons, sls_one, sls_nil] at h
  simp -dsimp [h, hallmarkref4_sameInts.rs]

theorem sameIntsL_self (a : List Int) (ha : a.length ≤ maxLen) : Pf Tryz.prog hallmarklaw4_sameInts.id [vInts a, vInts a] (.bool true) := by
  have hM : (maxLen : Int) ≤ 9223372036854775807 := by decide
  refine DC.of hallmarklaw4_sameInts.ok (by simp) ?_
  unfold hallmarklaw4_sameInts.ir
  obtain ⟨A, hA⟩ : ∃ A, A = vInts a := ⟨_, rfl⟩
  have hAi : A.ids = [] := by rw [hA]; rfl
  rw [← hA]
  refine vc_cut (At [(0, A), (1, A)] []) (by simp -dsimp [At]) ?_
  try clear h
  rintro ⟨sl, hp, bs⟩ ⟨rfl, h⟩
  simp only [sls_cons, sls_one, sls_nil] at h
  refine vc_cut (At [(0, A), (1, A)] []) (by simp -dsimp [h, At, hA, vInts]) ?_
  try clear h
  rintro ⟨sl, hp, bs⟩ ⟨rfl, h⟩
  simp only [sls_cons, sls_one, sls_nil] at h
  refine vc_cut (At [] []) ?_ ?_
  · refine vc_cut (At [(0, A), (1, A), (5, V.i 0)] []) (by simp -dsimp [h, At]) ?_
    try clear h
    rintro ⟨sl, hp, bs⟩ ⟨rfl, h⟩
    simp only [sls_cons, sls_one, sls_nil] at h
    refine vc_block_of (vc_upto 0 (by simp) a.length (fun i st => At [(0, A), (1, A), (5, V.i i)] [] st) ⟨rfl, by simpa using h⟩ ?_)
    clear h
    rintro i ⟨sl, hp, bs⟩ hi ⟨rfl, h⟩
    simp only [sls_cons, sls_one] at h
    unfold hallmarklaw4_sameInts.b0
    by_cases hil : i < a.length
    · have hil' : (i : Int) < a.length := by omega
      have hw : IntKind.i64.wrap ((i : Int) + 1) = ((i + 1 : Nat) : Int) := by rw [wrap64] <;> omega
      refine vc_cut (At [(0, A), (1, A), (5, V.i i)] []) (by simp -dsimp [h, At, hil, hil', hA, vInts]) ?_
      try clear h
      rintro ⟨sl, hp, bs⟩ ⟨rfl, h⟩
      simp only [sls_cons, sls_one, sls_nil] at h
      rw [hA] at h
      refine vc_cut (At [(0, A), (1, A), (5, V.i i)] []) ?_ ?_
      · rw [hA]
        refine vc_block_of ?_
        simp -dsimp [h, At, hil, vInts]
      try clear h
      rintro ⟨sl, hp, bs⟩ ⟨rfl, h⟩
      simp only [sls_cons, sls_one, sls_nil] at h
      simp -dsimp [h, At, hw, hil, hAi]
    · have hil' : ¬ (i : Int) < a.length := by omega
      simp -dsimp [h, hil, hil', hA, vInts, At]
  try clear h
  rintro ⟨sl, hp, bs⟩ ⟨rfl, h⟩
  simp only [sls_cons, sls_one, sls_nil] at h
  simp -dsimp [h, hallmarklaw4_sameInts.rs]

theorem sameTermsR_self (a : List Term) (ha : a.length ≤ maxLen) : Pf Tryz.prog hallmarkref4_sameTerms.id [vTerms a, vTerms a] (.bool true) := by
  have hM : (maxLen : Int) ≤ 9223372036854775807 := by decide
  refine DC.of hallmarkref4_sameTerms.ok (by simp) ?_
  unfold hallmarkref4_sameTerms.ir
  obtain ⟨A, hA⟩ : ∃ A, A = vTerms a := ⟨_, rfl⟩
  have hAi : A.ids = [] := by rw [hA]; rfl
  rw [← hA]
  refine vc_cut (At [(0, A), (1, A)] []) (by simp -dsimp [At]) ?_
  try clear h
  rintro ⟨sl, hp, bs⟩ ⟨rfl, h⟩
  simp only [sls_cons, sls_one, sls_nil] at h
  refine vc_cut (At [(0, A), (1, A)] []) (by simp -dsimp [h, At, hA, vTerms]) ?_
  try clear h
  rintro ⟨sl, hp, bs⟩ ⟨rfl, h⟩
  simp only [sls_cons, sls_one, sls_nil] at h
  refine vc_cut (At [] []) ?_ ?_
  · refine vc_cut (At [(0, A), (1, A), (5, V.i 0)] []) (by simp -dsimp [h, At]) ?_
    try clear h
    rintro ⟨sl, hp, bs⟩ ⟨rfl, h⟩
    simp only [sls_cons, sls_one, sls_nil] at h
    refine vc_block_of (vc_upto 0 (by simp) a.length (fun i st => At [(0, A), (1, A), (5, V.i i)] [] st) ⟨rfl, by simpa using h⟩ ?_)
    clear h
    rintro i ⟨sl, hp, bs⟩ hi ⟨rfl, h⟩
    simp only [sls_cons, sls_one] at h
    unfold hallmarkref4_sameTerms.b0
    by_cases hil : i < a.length
    · have hil' : (i : Int) < a.length := by omega
      have hw : IntKind.i64.wrap ((i : Int) + 1) = ((i + 1 : Nat) : Int) := by rw [wrap64] <;> omega
      refine vc_cut (At [(0, A), (1, A), (5, V.i i)] []) (by simp -dsimp [h, At, hil, hil', hA, vTerms]) ?_
      try clear h
      rintro ⟨sl, hp, bs⟩ ⟨rfl, h⟩
      simp only [sls_cons, sls_one, sls_nil] at h
      rw [hA] at h
      refine vc_cut (At [(0, A), (1, A), (5, V.i i)] []) ?_ ?_
      · rw [hA]
        refine vc_block_of ?_
        simp -dsimp [h, At, hil, vTerms, Term.cells]
      try clear h
      rintro ⟨sl, hp, bs⟩ ⟨rfl, h⟩
      simp only [sls_cons, sls_one, sls_nil] at h
      simp -dsimp [h, At, hw, hil, hAi]
    · have hil' : ¬ (i : Int) < a.length := by omega
      simp -dsimp [h, hil, hil', hA, vTerms, At]
  try clear h
  rintro ⟨sl, hp, bs⟩ ⟨rfl, h⟩
  simp only [sls_cons, sls_one, sls_nil] at h
  simp -dsimp [h, hallmarkref4_sameTerms.rs]

theorem sameRowsR_self (a : List (List Int)) (ha : a.length ≤ maxLen) (hr : ∀ r ∈ a, r.length ≤ maxLen) : Pf Tryz.prog hallmarkref4_sameRows.id [vIntss a, vIntss a] (.bool true) := by
  have hM : (maxLen : Int) ≤ 9223372036854775807 := by decide
  refine DC.of hallmarkref4_sameRows.ok (by simp) ?_
  unfold hallmarkref4_sameRows.ir
  obtain ⟨A, hA⟩ : ∃ A, A = vIntss a := ⟨_, rfl⟩
  have hAi : A.ids = [] := by rw [hA]; rfl
  rw [← hA]
  refine vc_cut (At [(0, A), (1, A)] []) (by simp -dsimp [At]) ?_
  try clear h
  rintro ⟨sl, hp, bs⟩ ⟨rfl, h⟩
  simp only [sls_cons, sls_one, sls_nil] at h
  refine vc_cut (At [(0, A), (1, A)] []) (by simp -dsimp [h, At, hA, vIntss]) ?_
  try clear h
  rintro ⟨sl, hp, bs⟩ ⟨rfl, h⟩
  simp only [sls_cons, sls_one, sls_nil] at h
  refine vc_cut (At [] []) ?_ ?_
  · refine vc_cut (At [(0, A), (1, A), (5, V.i 0)] []) (by simp -dsimp [h, At]) ?_
    try clear h
    rintro ⟨sl, hp, bs⟩ ⟨rfl, h⟩
    simp only [sls_cons, sls_one, sls_nil] at h
    refine vc_block_of (vc_upto 0 (by simp) a.length (fun i st => At [(0, A), (1, A), (5, V.i i)] [] st) ⟨rfl, by simpa using h⟩ ?_)
    clear h
    rintro i ⟨sl, hp, bs⟩ hi ⟨rfl, h⟩
    simp only [sls_cons, sls_one] at h
    unfold hallmarkref4_sameRows.b0
    by_cases hil : i < a.length
    · have hil' : (i : Int) < a.length := by omega
      have hw : IntKind.i64.wrap ((i : Int) + 1) = ((i + 1 : Nat) : Int) := by rw [wrap64] <;> omega
      refine vc_cut (At [(0, A), (1, A), (5, V.i i)] []) (by simp -dsimp [h, At, hil, hil', hA, vIntss]) ?_
      try clear h
      rintro ⟨sl, hp, bs⟩ ⟨rfl, h⟩
      simp only [sls_cons, sls_one, sls_nil] at h
      rw [hA] at h
      refine vc_cut (At [(0, A), (1, A), (5, V.i i)] []) ?_ ?_
      · rw [hA]
        refine vc_block_of ?_
        simp -dsimp [h, hil, vIntss]
        refine gcall (sameIntsR_self a[i] (hr _ (List.getElem_mem hil))) (by simp -dsimp [h, hil, vIntss]) (by simp -dsimp [h, hil, vInts, vIntss]) ?_
        simp -dsimp [h, At, hil, vIntss]
      try clear h
      rintro ⟨sl, hp, bs⟩ ⟨rfl, h⟩
      simp only [sls_cons, sls_one, sls_nil] at h
      simp -dsimp [h, At, hw, hil, hAi]
    · have hil' : ¬ (i : Int) < a.length := by omega
      simp -dsimp [h, hil, hil', hA, vIntss, At]
  try clear h
  rintro ⟨sl, hp, bs⟩ ⟨rfl, h⟩
  simp only [sls_cons, sls_one, sls_nil] at h
  simp -dsimp [h, hallmarkref4_sameRows.rs]
end Go.Abs.G

namespace Go.Abs.G
open Go.Proofs
set_option linter.unusedVariables false
set_option linter.unusedSimpArgs false

theorem at_get {l : List Int} {x : Int} (h0 : 0 ≤ x) (h1 : x < l.length) : ∃ n : Nat, x = (n : Int) ∧ n < l.length ∧ ∃ h : n < l.length, l[n] = atI l x := by
  obtain ⟨n, rfl⟩ := Int.eq_ofNat_of_zero_le h0
  have h : n < l.length := by omega
  exact ⟨n, rfl, h, h, by simp [atI, List.getD, List.getElem?_eq_getElem h]⟩

theorem numbersR_spec (l : List Int) (hl : l.length ≤ maxLen) : Pf Tryz.prog hallmarkref4_numbers.id [vInts l] (.bool (!greatB l)) := by
  have hM : (maxLen : Int) ≤ 9223372036854775807 := by decide
  refine DC.of hallmarkref4_numbers.ok (by simp) ?_
  unfold hallmarkref4_numbers.ir
  refine vc_cut (At [(0, vInts l)] []) (by simp -dsimp [At]) ?_
  try clear h
  rintro ⟨sl, hp, bs⟩ ⟨rfl, h⟩
  simp only [sls_cons, sls_one, sls_nil] at h
  refine vc_cut (fun st => greatB l = false ∧ st.hp = []) ?_ ?_
  · refine vc_cut (At [(0, vInts l), (3, V.i 0)] []) (by simp -dsimp [h, At]) ?_
    try clear h
    rintro ⟨sl, hp, bs⟩ ⟨rfl, h⟩
    simp only [sls_cons, sls_one, sls_nil] at h
    refine vc_block_of (vc_upto 0 (by simp) l.length (fun i st => greatB (l.take i) = false ∧ At [(0, vInts l), (3, V.i i)] [] st) ⟨rfl, rfl, by simpa using h⟩ ?_)
    clear h
    rintro i ⟨sl, hp, bs⟩ hi ⟨hd, rfl, h⟩
    simp only [sls_cons, sls_one] at h
    unfold hallmarkref4_numbers.b0
    by_cases hil : i < l.length
    · have hil' : (i : Int) < l.length := by omega
      have hw : IntKind.i64.wrap ((i : Int) + 1) = ((i + 1 : Nat) : Int) := by rw [wrap64] <;> omega
      refine vc_cut (At [(0, vInts l), (3, V.i i)] []) (by simp -dsimp [h, At, hil, hil', vInts]) ?_
      try clear h
      rintro ⟨sl, hp, bs⟩ ⟨rfl, h⟩
      simp only [sls_cons, sls_one, sls_nil] at h
      have hs : l.take (i + 1) = l.take i ++ [l[i]] := by rw [List.take_add_one, List.getElem?_eq_getElem hil]; rfl
      refine vc_cut (fun st => greatB (l.take (i + 1)) = false ∧ At [(0, vInts l), (3, V.i i)] [] st) ?_ ?_
      · refine vc_block_of ?_
        have hn := numberR_spec l[i]
        have hg : greatB (l.take (i + 1)) = !withinB l[i] 1000000000 := by
          rw [hs]; unfold greatB at hd ⊢
          rw [List.any_append, hd]; simp
        rw [hg]
        simp -dsimp [h, hil, hil', vInts]
        refine gcall (hn) (by simp -dsimp [h, hil, vInts]) (by simp -dsimp [h, hil, vInts]) ?_
        simp -dsimp [h, hil, vInts]
        cases hb : withinB l[i] 1000000000
        · have hG : greatB l = true := by
            unfold greatB; rw [List.any_eq_true]
            exact ⟨l[i], List.getElem_mem hil, by simp [hb]⟩
          simp -dsimp [h, hG, hallmarkref4_numbers.rs]
        · simp -dsimp [h, At, vInts]
      try clear h
      rintro ⟨sl, hp, bs⟩ ⟨hg, rfl, h⟩
      simp only [sls_cons, sls_one, sls_nil] at h
      rw [hg]
      simp -dsimp [h, At, hw, hil, vInts]
    · have hil' : ¬ (i : Int) < l.length := by omega
      have e : i = l.length := by omega
      subst e
      rw [List.take_length] at hd
      rw [hd]
      simp -dsimp [h, hil', vInts]
  · rintro ⟨sl, hp, bs⟩ ⟨hd, rfl⟩
    rw [hd]
    simp -dsimp [hallmarkref4_numbers.rs]

theorem sumI_bound (g : Int → Int) : ∀ (l : List Term), (∀ t ∈ l, -1000000000000000 ≤ t.c * g t.x ∧ t.c * g t.x ≤ 1000000000000000) → -(1000000000000000 * l.length : Int) ≤ sumI g l ∧ sumI g l ≤ 1000000000000000 * l.length
  | [], _ => by simp [sumI]
  | t :: l, h => by
    have h1 := sumI_bound g l fun t ht => h t (by simp [ht])
    have h2 := h t (by simp)
    have e : sumI g (t :: l) = t.c * g t.x + sumI g l := by simp [sumI]
    rw [e, List.length_cons]
    omega
theorem sumI_succ (g : Int → Int) (l : List Term) {i : Nat} (h : i < l.length) : sumI g (l.take (i + 1)) = sumI g (l.take i) + l[i].c * g l[i].x := by
  unfold sumI
  rw [List.take_succ_eq_append_getElem h, List.map_append, List.sum_append]; simp
theorem sumR_spec (l : List Term) (vs : List Int) (hl : l.length ≤ 64) (ht : ∀ t ∈ l, TermOk vs.length t) (hg : greatB vs = false) : Pf Tryz.prog hallmarkref4_sum.id [vTerms l, vInts vs] (V.i (sumI (atI vs) l)) := by
  refine DC.of hallmarkref4_sum.ok (by simp) ?_
  unfold hallmarkref4_sum.ir
  have hT : ∀ t ∈ l, -1000000000000000 ≤ t.c * atI vs t.x ∧ t.c * atI vs t.x ≤ 1000000000000000 := fun t h => mul_bound ⟨(ht t h).c.1, (ht t h).c.2.1⟩ (great_at hg (ht t h).x.1 (ht t h).x.2)
  refine vc_cut (At [(0, vTerms l), (1, vInts vs)] []) (by simp -dsimp [At]) ?_
  try clear h
  rintro ⟨sl, hp, bs⟩ ⟨rfl, h⟩
  simp only [sls_cons, sls_one, sls_nil] at h
  refine vc_cut (At [(0, vTerms l), (1, vInts vs), (5, V.i 0)] []) (by simp -dsimp [h, At]) ?_
  try clear h
  rintro ⟨sl, hp, bs⟩ ⟨rfl, h⟩
  simp only [sls_cons, sls_one, sls_nil] at h
  refine vc_cut (At [(5, V.i (sumI (atI vs) l))] []) ?_ ?_
  · refine vc_cut (At [(0, vTerms l), (1, vInts vs), (5, V.i 0), (6, V.i 0)] []) (by simp -dsimp [h, At]) ?_
    try clear h
    rintro ⟨sl, hp, bs⟩ ⟨rfl, h⟩
    simp only [sls_cons, sls_one, sls_nil] at h
    refine vc_block_of (vc_upto 0 (by simp) l.length (fun i st => ∃ S, S = sumI (atI vs) (l.take i) ∧ At [(0, vTerms l), (1, vInts vs), (5, V.i S), (6, V.i i)] [] st) ⟨0, by simp [sumI], rfl, by simpa using h⟩ ?_)
    clear h
    rintro i ⟨sl, hp, bs⟩ hi ⟨S, hS, rfl, h⟩
    simp only [sls_cons, sls_one] at h
    unfold hallmarkref4_sum.b0
    by_cases hil : i < l.length
    · have hil' : (i : Int) < l.length := by omega
      have hw : IntKind.i64.wrap ((i : Int) + 1) = ((i + 1 : Nat) : Int) := by rw [wrap64] <;> omega
      refine vc_cut (At [(0, vTerms l), (1, vInts vs), (5, V.i S), (6, V.i i)] []) (by simp -dsimp [h, At, hil, hil', vTerms]) ?_
      try clear h
      rintro ⟨sl, hp, bs⟩ ⟨rfl, h⟩
      simp only [sls_cons, sls_one, sls_nil] at h
      have hs := sumI_succ (atI vs) l hil
      have hb1 := sumI_bound (atI vs) (l.take i) fun t h => hT t (List.mem_of_mem_take h)
      have hb2 := hT _ (List.getElem_mem hil)
      have htk := ht _ (List.getElem_mem hil)
      rw [← hS] at hs hb1
      have hlen : (l.take i).length ≤ 64 := by simp; omega
      obtain ⟨t, htt⟩ : ∃ t, l[i] = t := ⟨_, rfl⟩
      rw [htt] at hs hb2 htk
      obtain ⟨n, hn, hnl, _, hvn⟩ := at_get htk.x.1 htk.x.2
      have hw1 : IntKind.i64.wrap (t.c * atI vs t.x) = t.c * atI vs t.x := by rw [wrap64] <;> omega
      have hw2 : IntKind.i64.wrap (S + t.c * atI vs t.x) = S + t.c * atI vs t.x := by rw [wrap64] <;> omega
      have hv2 : vs[n] = atI vs (n : Int) := by rw [hvn, hn]
      rw [hn] at hw1 hw2 hs
      refine vc_cut (At [(0, vTerms l), (1, vInts vs), (5, V.i (S + t.c * atI vs (n : Int))), (6, V.i i)] []) (by refine vc_block_of ?_; simp -dsimp [h, At, hil, vTerms, vInts, Term.cells, htt, hn, hnl, hv2, hw1, hw2]) ?_
      try clear h
      rintro ⟨sl, hp, bs⟩ ⟨rfl, h⟩
      simp only [sls_cons, sls_one, sls_nil] at h
      simp -dsimp [h, At, hw, hil, vInts, vTerms, hs]
    · have hil' : ¬ (i : Int) < l.length := by omega
      have e : i = l.length := by omega
      subst e
      rw [List.take_length] at hS
      simp -dsimp [h, hil', vTerms, At, hS]
  try clear h
  rintro ⟨sl, hp, bs⟩ ⟨rfl, h⟩
  simp only [sls_cons, sls_one, sls_nil] at h
  simp -dsimp [h, hallmarkref4_sum.rs]

theorem linearR_spec (op n k : Int) (hop : 1 ≤ op ∧ op ≤ 3) : Pf Tryz.prog hallmarkref4_linear.id [V.i op, V.i n, V.i k] (.bool (opB op n k)) := by
  refine DC.of hallmarkref4_linear.ok (by simp) ?_
  unfold hallmarkref4_linear.ir
  refine vc_cut (At [(0, V.i op), (1, V.i n), (2, V.i k)] []) (by simp -dsimp [At]) ?_
  try clear h
  rintro ⟨sl, hp, bs⟩ ⟨rfl, h⟩
  simp only [sls_cons, sls_one, sls_nil] at h
  have e : op = 1 ∨ op = 2 ∨ op = 3 := by omega
  unfold opB
  rcases e with e | e | e <;> subst e
  · by_cases c : n ≤ k <;> simp -dsimp [h, c, hallmarkref4_linear.rs]
  · by_cases c : n = k <;> simp -dsimp [h, c, hallmarkref4_linear.rs]
  · by_cases c : k ≤ n <;> simp -dsimp [h, c, hallmarkref4_linear.rs]
end Go.Abs.G

namespace Go.Abs.G
open Go.Proofs
set_option linter.unusedVariables false
set_option linter.unusedSimpArgs false

/-- What stands at the places. -/
def valsAt (xs vs : List Int) : List Int := xs.map (atI vs)
theorem valsAt_len (xs vs : List Int) : (valsAt xs vs).length = xs.length := by simp [valsAt]
structure AtP (xs vs : List Int) : Prop where
  l : xs.length ≤ 64
  x : ∀ x ∈ xs, 0 ≤ x ∧ x < vs.length
theorem AtP.get {xs vs : List Int} (h : AtP xs vs) {i : Nat} (hi : i < xs.length) : ∃ n : Nat, xs[i] = (n : Int) ∧ n < vs.length ∧ ∃ hn : n < vs.length, vs[n] = (valsAt xs vs)[i]'(by rw [valsAt_len]; exact hi) := by
  have hx := h.x _ (List.getElem_mem hi)
  obtain ⟨n, h1, h2, h3, h4⟩ := at_get hx.1 hx.2
  exact ⟨n, h1, h2, h3, by rw [h4]; simp [valsAt]⟩
theorem takeI {α : Type} (l : List α) (i : Nat) (h : i < l.length) : l.take (i + 1) = l.take i ++ [l[i]] := by rw [List.take_add_one, List.getElem?_eq_getElem h]; rfl

theorem differentR_spec (xs vs : List Int) (hp : AtP xs vs) : Pf Tryz.prog hallmarkref4_different.id [vInts xs, vInts vs] (.bool (decide ((valsAt xs vs).Nodup))) := by
  have hl := hp.l
  obtain ⟨X, hX⟩ : ∃ X, X = valsAt xs vs := ⟨_, rfl⟩
  have hXl : X.length = xs.length := by rw [hX, valsAt_len]
  refine DC.of hallmarkref4_different.ok (by simp) ?_
  unfold hallmarkref4_different.ir
  rw [← hX]
  refine vc_cut (At [(0, vInts xs), (1, vInts vs)] []) (by simp -dsimp [At]) ?_
  try clear h
  rintro ⟨sl, hp, bs⟩ ⟨rfl, h⟩
  simp only [sls_cons, sls_one, sls_nil] at h
  refine vc_cut (fun st => X.Nodup ∧ st.hp = []) ?_ ?_
  · refine vc_cut (At [(0, vInts xs), (1, vInts vs), (5, V.i 0)] []) (by simp -dsimp [h, At]) ?_
    try clear h
    rintro ⟨sl, hp, bs⟩ ⟨rfl, h⟩
    simp only [sls_cons, sls_one, sls_nil] at h
    refine vc_block_of (vc_upto 0 (by simp) xs.length (fun i st => (X.take i).Nodup ∧ At [(0, vInts xs), (1, vInts vs), (5, V.i i)] [] st) ⟨by simp, rfl, by simpa using h⟩ ?_)
    clear h
    rintro i ⟨sl, hp', bs⟩ hi ⟨hd, rfl, h⟩
    simp only [sls_cons, sls_one] at h
    unfold hallmarkref4_different.b0
    by_cases hil : i < xs.length
    · have hil' : (i : Int) < xs.length := by omega
      have hiX : i < X.length := by omega
      have hw : IntKind.i64.wrap ((i : Int) + 1) = ((i + 1 : Nat) : Int) := by rw [wrap64] <;> omega
      refine vc_cut (At [(0, vInts xs), (1, vInts vs), (5, V.i i)] []) (by simp -dsimp [h, At, hil, hil', vInts]) ?_
      try clear h
      rintro ⟨sl, hp, bs⟩ ⟨rfl, h⟩
      simp only [sls_cons, sls_one, sls_nil] at h
      obtain ⟨n, hn, hnl, hnl2, hvn⟩ := hp.get hil
      obtain ⟨y, hy⟩ : ∃ y, y = X[i] := ⟨_, rfl⟩
      have hvy : vs[n] = y := by rw [hvn, hy]; simp only [hX]
      refine vc_cut (fun st => (X.take (i + 1)).Nodup ∧ At [(0, vInts xs), (1, vInts vs), (5, V.i i)] [] st) ?_ ?_
      · refine vc_block_of ?_
        refine vc_cut (At [(0, vInts xs), (1, vInts vs), (5, V.i i), (6, V.i 0)] []) (by simp -dsimp [h, At]) ?_
        try clear h
        rintro ⟨sl, hp, bs⟩ ⟨rfl, h⟩
        simp only [sls_cons, sls_one, sls_nil] at h
        refine vc_block_of (vc_upto 0 (by simp) i (fun k st => y ∉ X.take k ∧ At [(0, vInts xs), (1, vInts vs), (5, V.i i), (6, V.i k)] [] st) ⟨by simp, rfl, by simpa using h⟩ ?_)
        clear h
        rintro k ⟨sl, hp'', bs⟩ hk ⟨hd2, rfl, h⟩
        simp only [sls_cons, sls_one] at h
        unfold hallmarkref4_different.b1
        by_cases hkl : k < i
        · have hkl' : (k : Int) < i := by omega
          have hkx : k < xs.length := by omega
          have hkX : k < X.length := by omega
          have hkx' : (k : Int) < xs.length := by omega
          have hwk : IntKind.i64.wrap ((k : Int) + 1) = ((k + 1 : Nat) : Int) := by rw [wrap64] <;> omega
          obtain ⟨q, hq, hql, hql2, hvq⟩ := hp.get hkx
          obtain ⟨z, hz⟩ : ∃ z, z = X[k] := ⟨_, rfl⟩
          have hvz : vs[q] = z := by rw [hvq, hz]; simp only [hX]
          by_cases he : z = y
          · have hno : ¬ X.Nodup := fun hN => by
              have h1 := hN.sublist (List.take_sublist (i + 1) X)
              rw [takeI X i hiX, List.nodup_append] at h1
              refine h1.2.2 z ?_ y (by rw [hy]; simp) he
              rw [hz]
              exact List.mem_take_iff_getElem.2 ⟨k, by omega, rfl⟩
            simp -dsimp [h, hkl, hkl', hkx, hkx', hil, vInts, hq, hql, hn, hnl, hvz, hvy, he, hallmarkref4_different.rs, hno]
          · have hstep : y ∉ X.take (k + 1) := by
              rw [takeI X k hkX, List.mem_append, ← hz]
              simp only [List.mem_singleton, not_or]
              exact ⟨hd2, fun e => he e.symm⟩
            simp -dsimp [h, hkl, hkl', hkx, hkx', hil, vInts, hq, hql, hn, hnl, hvz, hvy, he, At, hwk, hstep]
        · have hkl' : ¬ (k : Int) < i := by omega
          have e : k = i := by omega
          subst e
          have hN : (X.take (k + 1)).Nodup := by
            rw [takeI X k hiX, List.nodup_append]
            refine ⟨hd, by simp, fun a ha b hb => ?_⟩
            rw [List.mem_singleton] at hb
            rw [hb, ← hy]
            exact fun e => hd2 (e ▸ ha)
          simp -dsimp [h, hkl', At, hN]
      try clear h
      rintro ⟨sl, hp, bs⟩ ⟨hN, rfl, h⟩
      simp only [sls_cons, sls_one, sls_nil] at h
      simp -dsimp [h, At, hw, hil, vInts, hN]
    · have hil' : ¬ (i : Int) < xs.length := by omega
      have e : i = X.length := by omega
      rw [e, List.take_length] at hd
      simp -dsimp [h, hil, hil', vInts, hd]
  · rintro ⟨sl, hp', bs⟩ ⟨hd, rfl⟩
    simp -dsimp [hallmarkref4_different.rs, hd]

theorem rowR_spec (xs row vs : List Int) (hp : AtP xs vs) (hr : row.length = xs.length) : Pf Tryz.prog hallmarkref4_Row.id [vInts xs, vInts row, vInts vs] (.bool (decide (row = valsAt xs vs))) := by
  have hl := hp.l
  obtain ⟨X, hX⟩ : ∃ X, X = valsAt xs vs := ⟨_, rfl⟩
  have hXl : X.length = xs.length := by rw [hX, valsAt_len]
  refine DC.of hallmarkref4_Row.ok (by simp) ?_
  unfold hallmarkref4_Row.ir
  rw [← hX]
  refine vc_cut (At [(0, vInts xs), (1, vInts row), (2, vInts vs)] []) (by simp -dsimp [At]) ?_
  try clear h
  rintro ⟨sl, hp, bs⟩ ⟨rfl, h⟩
  simp only [sls_cons, sls_one, sls_nil] at h
  refine vc_cut (fun st => row = X ∧ st.hp = []) ?_ ?_
  · refine vc_cut (At [(0, vInts xs), (1, vInts row), (2, vInts vs), (7, V.i 0)] []) (by simp -dsimp [h, At]) ?_
    try clear h
    rintro ⟨sl, hp, bs⟩ ⟨rfl, h⟩
    simp only [sls_cons, sls_one, sls_nil] at h
    refine vc_block_of (vc_upto 0 (by simp) xs.length (fun i st => row.take i = X.take i ∧ At [(0, vInts xs), (1, vInts row), (2, vInts vs), (7, V.i i)] [] st) ⟨by simp, rfl, by simpa using h⟩ ?_)
    clear h
    rintro i ⟨sl, hp', bs⟩ hi ⟨hd, rfl, h⟩
    simp only [sls_cons, sls_one] at h
    unfold hallmarkref4_Row.b0
    by_cases hil : i < xs.length
    · have hil' : (i : Int) < xs.length := by omega
      have hiX : i < X.length := by omega
      have hiR : i < row.length := by omega
      have hw : IntKind.i64.wrap ((i : Int) + 1) = ((i + 1 : Nat) : Int) := by rw [wrap64] <;> omega
      refine vc_cut (At [(0, vInts xs), (1, vInts row), (2, vInts vs), (7, V.i i)] []) (by simp -dsimp [h, At, hil, hil', vInts]) ?_
      try clear h
      rintro ⟨sl, hp, bs⟩ ⟨rfl, h⟩
      simp only [sls_cons, sls_one, sls_nil] at h
      obtain ⟨n, hn, hnl, hnl2, hvn⟩ := hp.get hil
      obtain ⟨y, hy⟩ : ∃ y, y = X[i] := ⟨_, rfl⟩
      have hvy : vs[n] = y := by rw [hvn, hy]; simp only [hX]
      refine vc_cut (fun st => row.take (i + 1) = X.take (i + 1) ∧ At [(0, vInts xs), (1, vInts row), (2, vInts vs), (7, V.i i)] [] st) ?_ ?_
      · refine vc_block_of ?_
        by_cases he : y = row[i]
        · have hs : row.take (i + 1) = X.take (i + 1) := by rw [takeI row i hiR, takeI X i hiX, hd, ← hy, he]
          simp -dsimp [h, hil, hil', hiR, vInts, hn, hnl, hvy, he, At, hs]
        · have hno : ¬ row = X := fun e => he (by rw [hy]; simp only [e])
          simp -dsimp [h, hil, hil', hiR, vInts, hn, hnl, hvy, he, hno, hallmarkref4_Row.rs]
      try clear h
      rintro ⟨sl, hp, bs⟩ ⟨hN, rfl, h⟩
      simp only [sls_cons, sls_one, sls_nil] at h
      simp -dsimp [h, At, hw, hil, vInts, hN]
    · have hil' : ¬ (i : Int) < xs.length := by omega
      have e : i = X.length := by omega
      have e2 : X.length = row.length := by omega
      rw [e, List.take_length, e2, List.take_length] at hd
      simp -dsimp [h, hil, hil', vInts, hd]
  · rintro ⟨sl, hp', bs⟩ ⟨hd, rfl⟩
    simp -dsimp [hallmarkref4_Row.rs, hd]
end Go.Abs.G

namespace Go.Abs.G
open Go.Proofs
set_option linter.unusedVariables false
set_option linter.unusedSimpArgs false

theorem maxI_mem : ∀ (l : List Int), l ≠ [] → maxI l ∈ l
  | [], h => (h rfl).elim
  | [x], _ => by simp [maxI]
  | x :: y :: l, _ => by
    have := maxI_mem (y :: l) (by simp)
    show max x (maxI (y :: l)) ∈ x :: y :: l
    rcases Int.le_total x (maxI (y :: l)) with h | h
    · rw [Int.max_eq_right h]; exact List.mem_cons_of_mem _ this
    · rw [Int.max_eq_left h]; simp
theorem maxI_ge : ∀ (l : List Int), ∀ x ∈ l, x ≤ maxI l
  | [], x, h => by simp at h
  | [y], x, h => by simp at h; simp [maxI, h]
  | y :: z :: l, x, h => by
    have ih := maxI_ge (z :: l)
    show x ≤ max y (maxI (z :: l))
    rcases List.mem_cons.1 h with h | h
    · omega
    · have := ih x h; omega
theorem minI_mem : ∀ (l : List Int), l ≠ [] → minI l ∈ l
  | [], h => (h rfl).elim
  | [x], _ => by simp [minI]
  | x :: y :: l, _ => by
    have := minI_mem (y :: l) (by simp)
    show min x (minI (y :: l)) ∈ x :: y :: l
    rcases Int.le_total x (minI (y :: l)) with h | h
    · rw [Int.min_eq_left h]; simp
    · rw [Int.min_eq_right h]; exact List.mem_cons_of_mem _ this
theorem minI_le : ∀ (l : List Int), ∀ x ∈ l, minI l ≤ x
  | [], x, h => by simp at h
  | [y], x, h => by simp at h; simp [minI, h]
  | y :: z :: l, x, h => by
    have ih := minI_le (z :: l)
    show min y (minI (z :: l)) ≤ x
    rcases List.mem_cons.1 h with h | h
    · omega
    · have := ih x h; omega
def bestB (v sign : Int) (X : List Int) : Bool := decide (v ∈ X) && X.all fun x => decide (sign * x ≤ sign * v)
theorem bestB_max {v : Int} {X : List Int} (h : X ≠ []) : bestB v 1 X = decide (v = maxI X) := by
  have h1 := maxI_mem X h
  have h2 := maxI_ge X
  rw [Bool.eq_iff_iff]
  simp only [bestB, Bool.and_eq_true, decide_eq_true_eq, List.all_eq_true]
  constructor
  · rintro ⟨a, b⟩
    have := h2 v a
    have := b _ h1
    omega
  · rintro rfl
    exact ⟨h1, fun x hx => by have := h2 x hx; omega⟩
theorem bestB_min {v : Int} {X : List Int} (h : X ≠ []) : bestB v (-1) X = decide (v = minI X) := by
  have h1 := minI_mem X h
  have h2 := minI_le X
  rw [Bool.eq_iff_iff]
  simp only [bestB, Bool.and_eq_true, decide_eq_true_eq, List.all_eq_true]
  constructor
  · rintro ⟨a, b⟩
    have := h2 v a
    have := b _ h1
    omega
  · rintro rfl
    exact ⟨h1, fun x hx => by have := h2 x hx; omega⟩

theorem bestR_spec (v sign : Int) (xs vs : List Int) (hp : AtP xs vs) (hg : greatB vs = false) (hv : -1000000000 ≤ v ∧ v ≤ 1000000000) (hsg : sign = 1 ∨ sign = -1) : Pf Tryz.prog hallmarkref4_best.id [V.i v, vInts xs, vInts vs, V.i sign] (.bool (bestB v sign (valsAt xs vs))) := by
  have hl := hp.l
  obtain ⟨X, hX⟩ : ∃ X, X = valsAt xs vs := ⟨_, rfl⟩
  have hXl : X.length = xs.length := by rw [hX, valsAt_len]
  refine DC.of hallmarkref4_best.ok (by simp) ?_
  unfold hallmarkref4_best.ir
  rw [← hX]
  refine vc_cut (At [(0, V.i v), (1, vInts xs), (2, vInts vs), (3, V.i sign)] []) (by simp -dsimp [At]) ?_
  try clear h
  rintro ⟨sl, hp, bs⟩ ⟨rfl, h⟩
  simp only [sls_cons, sls_one, sls_nil] at h
  refine vc_cut (At [(0, V.i v), (1, vInts xs), (2, vInts vs), (3, V.i sign), (9, .bool false)] []) (by simp -dsimp [h, At]) ?_
  try clear h
  rintro ⟨sl, hp, bs⟩ ⟨rfl, h⟩
  simp only [sls_cons, sls_one, sls_nil] at h
  refine vc_cut (At [(9, .bool (bestB v sign X))] []) ?_ ?_
  · refine vc_cut (At [(0, V.i v), (1, vInts xs), (2, vInts vs), (3, V.i sign), (9, .bool false), (10, V.i 0)] []) (by simp -dsimp [h, At]) ?_
    try clear h
    rintro ⟨sl, hp, bs⟩ ⟨rfl, h⟩
    simp only [sls_cons, sls_one, sls_nil] at h
    refine vc_block_of (vc_upto 0 (by simp) xs.length (fun i st => (X.take i).all (fun x => decide (sign * x ≤ sign * v)) = true ∧ ∃ b, b = decide (v ∈ X.take i) ∧ At [(0, V.i v), (1, vInts xs), (2, vInts vs), (3, V.i sign), (9, .bool b), (10, V.i i)] [] st) ⟨by simp, false, by simp, rfl, by simpa using h⟩ ?_)
    clear h
    rintro i ⟨sl, hp', bs⟩ hi ⟨hd, b, hb, rfl, h⟩
    simp only [sls_cons, sls_one] at h
    unfold hallmarkref4_best.b0
    by_cases hil : i < xs.length
    · have hil' : (i : Int) < xs.length := by omega
      have hiX : i < X.length := by omega
      have hw : IntKind.i64.wrap ((i : Int) + 1) = ((i + 1 : Nat) : Int) := by rw [wrap64] <;> omega
      refine vc_cut (At [(0, V.i v), (1, vInts xs), (2, vInts vs), (3, V.i sign), (9, .bool b), (10, V.i i)] []) (by simp -dsimp [h, At, hil, hil', vInts]) ?_
      try clear h
      rintro ⟨sl, hp, bs⟩ ⟨rfl, h⟩
      simp only [sls_cons, sls_one, sls_nil] at h
      obtain ⟨n, hn, hnl, hnl2, hvn⟩ := hp.get hil
      obtain ⟨y, hy⟩ : ∃ y, y = X[i] := ⟨_, rfl⟩
      have hvy : vs[n] = y := by rw [hvn, hy]; simp only [hX]
      have hyb : -1000000000 ≤ y ∧ y ≤ 1000000000 := by
        have h1 := great_at hg (x := (n : Int)) (by omega) (by omega)
        have h2 : atI vs (n : Int) = y := by rw [← hvy]; simp [atI, List.getD, List.getElem?_eq_getElem hnl2]
        rwa [h2] at h1
      have hw1 : IntKind.i64.wrap (sign * y) = sign * y := by rcases hsg with e | e <;> subst e <;> rw [wrap64] <;> omega
      have hw2 : IntKind.i64.wrap (sign * v) = sign * v := by rcases hsg with e | e <;> subst e <;> rw [wrap64] <;> omega
      have hmem : decide (v ∈ X.take (i + 1)) = (b || decide (y = v)) := by
        rw [takeI X i hiX, hb, ← hy, Bool.eq_iff_iff]
        simp only [List.mem_append, List.mem_singleton, Bool.or_eq_true, decide_eq_true_eq]
        exact ⟨fun h => h.imp id Eq.symm, fun h => h.imp id Eq.symm⟩
      refine vc_cut (fun st => (X.take (i + 1)).all (fun x => decide (sign * x ≤ sign * v)) = true ∧ At [(0, V.i v), (1, vInts xs), (2, vInts vs), (3, V.i sign), (9, .bool (b || decide (y = v))), (10, V.i i)] [] st) ?_ ?_
      · refine vc_block_of ?_
        by_cases hgt : sign * v < sign * y
        · have hno : bestB v sign X = false := by
            unfold bestB
            have : (X.all fun x => decide (sign * x ≤ sign * v)) = false := by
              rw [List.all_eq_false]
              exact ⟨y, by rw [hy]; exact List.getElem_mem hiX, by simp; omega⟩
            rw [this, Bool.and_false]
          simp -dsimp [h, hil, hil', vInts, hn, hnl, hvy, hw1, hw2, hgt, hno, hallmarkref4_best.rs]
        · have hall : (X.take (i + 1)).all (fun x => decide (sign * x ≤ sign * v)) = true := by
            rw [takeI X i hiX, List.all_append, hd, ← hy]
            simp; omega
          by_cases he : y = v
          · cases b <;> simp -dsimp [h, hil, hil', vInts, hn, hnl, hvy, hw1, hw2, hgt, At, hall, he]
          · cases b <;> simp -dsimp [h, hil, hil', vInts, hn, hnl, hvy, hw1, hw2, hgt, At, hall, he]
      try clear h
      rintro ⟨sl, hp, bs⟩ ⟨hN, rfl, h⟩
      simp only [sls_cons, sls_one, sls_nil] at h
      simp -dsimp [h, At, hw, hil, vInts, hN, hmem]
    · have hil' : ¬ (i : Int) < xs.length := by omega
      have e : i = X.length := by omega
      rw [e, List.take_length] at hd hb
      have hB : bestB v sign X = b := by unfold bestB; rw [hd, ← hb, Bool.and_true]
      simp -dsimp [h, hil, hil', vInts, hB, At]
  try clear h
  rintro ⟨sl, hp, bs⟩ ⟨rfl, h⟩
  simp only [sls_cons, sls_one, sls_nil] at h
  simp -dsimp [h, hallmarkref4_best.rs]

theorem tabledR_spec (c : Con) (vs : List Int) (hp : AtP c.xs vs) (hl : c.rows.length ≤ maxLen) (hr : ∀ r ∈ c.rows, r.length = c.xs.length) : Pf Tryz.prog hallmarkref4_tabled.id [.agg c.cells, vInts vs] (.bool (c.rows.any fun r => decide (r = valsAt c.xs vs))) := by
  have hM : (maxLen : Int) ≤ 9223372036854775807 := by decide
  obtain ⟨X, hX⟩ : ∃ X, X = valsAt c.xs vs := ⟨_, rfl⟩
  refine DC.of hallmarkref4_tabled.ok (by simp) ?_
  unfold hallmarkref4_tabled.ir
  rw [← hX]
  refine vc_cut (At [(1, vInts vs), (2, .ptr 0 1 0 0)] [.mem false [] [c.cells]]) (by simp -dsimp [At]) ?_
  try clear h
  rintro ⟨sl, hp, bs⟩ ⟨rfl, h⟩
  simp only [sls_cons, sls_one, sls_nil] at h
  refine vc_cut (fun st => (c.rows.any fun r => decide (r = X)) = false ∧ At [] [.mem false [] [c.cells]] st) ?_ ?_
  · refine vc_cut (At [(1, vInts vs), (2, .ptr 0 1 0 0), (5, V.i 0)] [.mem false [] [c.cells]]) (by simp -dsimp [h, At]) ?_
    try clear h
    rintro ⟨sl, hp, bs⟩ ⟨rfl, h⟩
    simp only [sls_cons, sls_one, sls_nil] at h
    refine vc_block_of (vc_upto 1 (by simp) c.rows.length (fun i st => ((c.rows.take i).any fun r => decide (r = X)) = false ∧ At [(1, vInts vs), (2, .ptr 0 1 0 0), (5, V.i i)] [.mem false [] [c.cells]] st) ⟨by simp, rfl, by simpa using h⟩ ?_)
    clear h
    rintro i ⟨sl, hp', bs⟩ hi ⟨hd, rfl, h⟩
    simp only [sls_cons, sls_one] at h
    unfold hallmarkref4_tabled.b0
    by_cases hil : i < c.rows.length
    · have hil' : (i : Int) < c.rows.length := by omega
      have hw : IntKind.i64.wrap ((i : Int) + 1) = ((i + 1 : Nat) : Int) := by rw [wrap64] <;> omega
      refine vc_cut (At [(1, vInts vs), (2, .ptr 0 1 0 0), (5, V.i i)] [.mem false [] [c.cells]]) (by simp -dsimp [h, At, hil, hil', Con.cells, vIntss]) ?_
      try clear h
      rintro ⟨sl, hp, bs⟩ ⟨rfl, h⟩
      simp only [sls_cons, sls_one, sls_nil] at h
      have hrow := rowR_spec c.xs c.rows[i] vs hp (hr _ (List.getElem_mem hil))
      rw [← hX] at hrow
      refine vc_cut (fun st => ((c.rows.take (i + 1)).any fun r => decide (r = X)) = false ∧ At [(1, vInts vs), (2, .ptr 0 1 0 0), (5, V.i i)] [.mem false [] [c.cells]] st) ?_ ?_
      · refine vc_block_of ?_
        simp -dsimp [h, hil, hil', Con.cells, vIntss]
        refine gcall (hrow) (by simp -dsimp [h, hil, Con.cells, vIntss, vInts]) (by simp -dsimp [h, hil, Con.cells, vIntss, vInts]) ?_
        simp -dsimp [h, hil, Con.cells, vIntss, vInts]
        by_cases he : c.rows[i] = X
        · have hG : (c.rows.any fun r => decide (r = X)) = true := by
            rw [List.any_eq_true]
            exact ⟨_, List.getElem_mem hil, by simp [he]⟩
          simp -dsimp [h, he, hG, hallmarkref4_tabled.rs]
        · have hG : ((c.rows.take (i + 1)).any fun r => decide (r = X)) = false := by
            rw [takeI c.rows i hil, List.any_append, hd]
            simp [he]
          simp -dsimp [h, he, hG, At, Con.cells, vIntss, vInts]
      try clear h
      rintro ⟨sl, hp, bs⟩ ⟨hN, rfl, h⟩
      simp only [sls_cons, sls_one, sls_nil] at h
      simp -dsimp [h, At, hw, hil, vInts, hN]
    · have hil' : ¬ (i : Int) < c.rows.length := by omega
      have e : i = c.rows.length := by omega
      rw [e, List.take_length] at hd
      simp -dsimp [h, hil, hil', Con.cells, vIntss, hd, At]
  try clear h
  rintro ⟨sl, hp, bs⟩ ⟨hd, rfl, h⟩
  simp only [sls_cons, sls_one, sls_nil] at h
  simp -dsimp [h, hallmarkref4_tabled.rs, hd]

theorem countedR_spec (c : Con) (vs : List Int) (hp : AtP c.xs vs) (hop : 1 ≤ c.op ∧ c.op ≤ 3) : Pf Tryz.prog hallmarkref4_counted.id [.agg c.cells, vInts vs] (.bool (opB c.op ((c.xs.filter fun x => decide (atI vs x = c.v)).length) c.k)) := by
  have hl := hp.l
  refine DC.of hallmarkref4_counted.ok (by simp) ?_
  unfold hallmarkref4_counted.ir
  obtain ⟨N, hN⟩ : ∃ N : Nat, N = (c.xs.filter fun x => decide (atI vs x = c.v)).length := ⟨_, rfl⟩
  rw [← hN]
  refine vc_cut (At [(1, vInts vs), (2, .ptr 0 1 0 0)] [.mem false [] [c.cells]]) (by simp -dsimp [At]) ?_
  try clear h
  rintro ⟨sl, hp, bs⟩ ⟨rfl, h⟩
  simp only [sls_cons, sls_one, sls_nil] at h
  refine vc_cut (At [(1, vInts vs), (2, .ptr 0 1 0 0), (5, V.i 0)] [.mem false [] [c.cells]]) (by simp -dsimp [h, At]) ?_
  try clear h
  rintro ⟨sl, hp, bs⟩ ⟨rfl, h⟩
  simp only [sls_cons, sls_one, sls_nil] at h
  refine vc_cut (At [(1, vInts vs), (2, .ptr 0 1 0 0), (5, V.i N)] [.mem false [] [c.cells]]) ?_ ?_
  · refine vc_cut (At [(1, vInts vs), (2, .ptr 0 1 0 0), (5, V.i 0), (6, V.i 0)] [.mem false [] [c.cells]]) (by simp -dsimp [h, At]) ?_
    try clear h
    rintro ⟨sl, hp, bs⟩ ⟨rfl, h⟩
    simp only [sls_cons, sls_one, sls_nil] at h
    refine vc_block_of (vc_upto 1 (by simp) c.xs.length (fun i st => ∃ k : Nat, k = ((c.xs.take i).filter fun x => decide (atI vs x = c.v)).length ∧ At [(1, vInts vs), (2, .ptr 0 1 0 0), (5, V.i k), (6, V.i i)] [.mem false [] [c.cells]] st) ⟨0, by simp, rfl, by simpa using h⟩ ?_)
    clear h
    rintro i ⟨sl, hp', bs⟩ hi ⟨k, hk, rfl, h⟩
    simp only [sls_cons, sls_one] at h
    unfold hallmarkref4_counted.b0
    by_cases hil : i < c.xs.length
    · have hil' : (i : Int) < c.xs.length := by omega
      have hw : IntKind.i64.wrap ((i : Int) + 1) = ((i + 1 : Nat) : Int) := by rw [wrap64] <;> omega
      have hkl : k ≤ i := by
        have := List.length_filter_le (fun x => decide (atI vs x = c.v)) (c.xs.take i)
        simp at this; omega
      have hwk : IntKind.i64.wrap ((k : Int) + 1) = ((k + 1 : Nat) : Int) := by rw [wrap64] <;> omega
      refine vc_cut (At [(1, vInts vs), (2, .ptr 0 1 0 0), (5, V.i k), (6, V.i i)] [.mem false [] [c.cells]]) (by simp -dsimp [h, At, hil, hil', Con.cells, vInts]) ?_
      try clear h
      rintro ⟨sl, hp, bs⟩ ⟨rfl, h⟩
      simp only [sls_cons, sls_one, sls_nil] at h
      obtain ⟨n, hn, hnl, hnl2, hvn⟩ := hp.get hil
      have hy : (valsAt c.xs vs)[i]'(by rw [valsAt_len]; exact hil) = atI vs (n : Int) := by simp [valsAt, hn]
      rw [hy] at hvn
      by_cases he : atI vs (n : Int) = c.v
      · have hs : ((c.xs.take (i + 1)).filter fun x => decide (atI vs x = c.v)).length = k + 1 := by
          rw [takeI c.xs i hil, List.filter_append, List.length_append, ← hk]
          simp [hn, he]
        refine vc_cut (At [(1, vInts vs), (2, .ptr 0 1 0 0), (5, V.i (k + 1 : Nat)), (6, V.i i)] [.mem false [] [c.cells]]) (by refine vc_block_of ?_; simp -dsimp [h, hil, hil', Con.cells, vInts, hn, hnl, hvn, he, hwk, At]) ?_
        try clear h
        rintro ⟨sl, hp, bs⟩ ⟨rfl, h⟩
        simp only [sls_cons, sls_one, sls_nil] at h
        simp -dsimp [h, At, hw, hil, vInts, hs]
      · have hs : ((c.xs.take (i + 1)).filter fun x => decide (atI vs x = c.v)).length = k := by
          rw [takeI c.xs i hil, List.filter_append, List.length_append, ← hk]
          simp [hn, he]
        refine vc_cut (At [(1, vInts vs), (2, .ptr 0 1 0 0), (5, V.i k), (6, V.i i)] [.mem false [] [c.cells]]) (by refine vc_block_of ?_; simp -dsimp [h, hil, hil', Con.cells, vInts, hn, hnl, hvn, he, hwk, At]) ?_
        try clear h
        rintro ⟨sl, hp, bs⟩ ⟨rfl, h⟩
        simp only [sls_cons, sls_one, sls_nil] at h
        simp -dsimp [h, At, hw, hil, vInts, hs]
    · have hil' : ¬ (i : Int) < c.xs.length := by omega
      have e : i = c.xs.length := by omega
      rw [e, List.take_length, ← hN] at hk
      simp -dsimp [h, hil, hil', Con.cells, vInts, At, hk]
  try clear h
  rintro ⟨sl, hp, bs⟩ ⟨rfl, h⟩
  simp only [sls_cons, sls_one, sls_nil] at h
  have hlin := linearR_spec c.op N c.k hop
  simp -dsimp [h, Con.cells]
  refine gcall (hlin) (by simp -dsimp [h, Con.cells, hallmarkref4_counted.rs]) (by simp -dsimp [h, Con.cells, hallmarkref4_counted.rs]) ?_
  simp -dsimp [h, Con.cells, hallmarkref4_counted.rs]
end Go.Abs.G

namespace Go.Abs.G
open Go.Proofs
set_option linter.unusedVariables false
set_option linter.unusedSimpArgs false

theorem conN_op {c : Con} {vars : Int} {n : Needs} (h : conN c vars n = 0) (hn : n.op = true) : 1 ≤ c.op ∧ c.op ≤ 3 := by
  unfold conN at h
  split at h
  · cases h
  · next h1 =>
    rw [hn] at h1
    simp at h1
    omega
theorem conN_wide {c : Con} {vars : Int} {n : Needs} (h : conN c vars n = 0) (hn : n.rows = true) : ∀ r ∈ c.rows, r.length = c.xs.length := by
  unfold conN at h
  split at h
  · cases h
  · split at h
    · cases h
    · split at h
      · cases h
      · next h2 =>
        simp only [Bool.or_eq_true, not_or, Bool.not_eq_true] at h2
        have h3 := h2.2
        unfold wideB at h3
        rw [hn, Bool.true_and] at h3
        simp only [Bool.or_eq_false_iff, List.any_eq_false, decide_eq_true_eq, ne_eq, Decidable.not_not] at h3
        exact h3.2
theorem conN_terms {c : Con} {vars : Int} {n : Needs} (h : conN c vars n = 0) (hn : n.terms = true) : 1 ≤ c.terms.length := by
  unfold conN at h
  split at h
  · cases h
  · split at h
    · cases h
    · split at h
      · cases h
      · next h2 =>
        simp only [Bool.or_eq_true, not_or, Bool.not_eq_true] at h2
        have h3 := h2.1.1.1
        unfold countsB at h3
        rw [hn] at h3
        simp at h3
        omega
theorem conB_some {c : Con} {vars : Int} (h : conB c vars = 0) : ∃ n, needs c.kind = some n ∧ conN c vars n = 0 := by
  unfold conB at h
  split at h
  · simp at h
  · next n hn => exact ⟨n, hn, h⟩
theorem needs_kind {k : Int} {n : Needs} (h : needs k = some n) :
    (k = 1 ∧ n.op = true ∧ n.terms = true) ∨ (k = 2 ∧ n.x = true ∧ n.y = true) ∨ (k = 3 ∧ n.xs = true) ∨ (k = 4 ∧ n.x = true ∧ n.y = true) ∨ (k = 5 ∧ n.y = true ∧ n.xs = true) ∨ (k = 6 ∧ n.y = true ∧ n.xs = true) ∨ (k = 7 ∧ n.x = true) ∨ (k = 8 ∧ n.rows = true ∧ n.xs = true) ∨ (k = 9 ∧ n.op = true ∧ n.xs = true) := by
  unfold needs at h
  repeat' split at h
  all_goals (first | (cases h; simp_all) | cases h)
theorem con0 (c : Con) : conB c 0 ≠ 0 := by
  intro h
  obtain ⟨n, hn, hc⟩ := conB_some h
  have hk := ConOk.of (vars := 0) (by simpa using hc)
  have hX : n.x = true → False := fun e => by have := hk.x e; omega
  have hXs : n.xs = true → False := fun e => by
    have h1 := hk.xs1 e
    have h2 := hk.xs (c.xs[0]) (List.getElem_mem (by omega))
    omega
  have hT : n.terms = true → False := fun e => by
    have h1 := conN_terms hc e
    have h2 := (hk.terms (c.terms[0]) (List.getElem_mem (by omega))).x
    omega
  rcases needs_kind hn with ⟨_, _, a⟩ | ⟨_, a, _⟩ | ⟨_, a⟩ | ⟨_, a, _⟩ | ⟨_, _, a⟩ | ⟨_, _, a⟩ | ⟨_, a⟩ | ⟨_, _, a⟩ | ⟨_, _, a⟩
  · exact hT a
  · exact hX a
  · exact hXs a
  · exact hX a
  · exact hXs a
  · exact hXs a
  · exact hX a
  · exact hXs a
  · exact hXs a
theorem conR_zero (c : Con) (n : Nat) : (conR c n = 0) ↔ (conB c n = 0) := by
  by_cases h : n = 0
  · subst h
    have h1 := con0 c
    have h2 : conR c 0 ≠ 0 := by
      have hp : placesR c 0 = false := by
        unfold placesR
        have : placeR c.x 0 = false := by unfold placeR; rw [Bool.and_eq_false_iff]; simp only [decide_eq_false_iff_not]; omega
        rw [this]; rfl
      unfold conR
      rw [hp]
      repeat' split
      all_goals simp_all
    exact ⟨fun h => (h2 h).elim, fun h => (h1 h).elim⟩
  · rw [conR_eq c n (by omega)]

theorem holdsR_spec (c : Con) (vs : List Int) (hc : okCon c) (hv : vs.length ≤ maxLen) : Pf Tryz.prog hallmarkref4_Holds.id [.agg c.cells, vInts vs] (.bool (holdsB c vs)) := by
  have hM : (maxLen : Int) ≤ 9223372036854775807 := by decide
  have hc0 := hc
  obtain ⟨_, _, _, _, _, _, _, _, _, hrl, hrows⟩ := hc0
  refine DC.of hallmarkref4_Holds.ok (by simp) ?_
  unfold hallmarkref4_Holds.ir
  have hcl : c.cells.length = 10 := rfl
  have hcon := conR0_spec c vs.length hc
  have hnum := numbersR_spec vs hv
  obtain ⟨B, hB⟩ : ∃ B, B = O.mem false [] [c.cells] := ⟨_, rfl⟩
  refine vc_cut (At [(1, vInts vs), (2, .ptr 0 1 0 0)] [.mem false [] [c.cells]]) (by simp -dsimp [At]) ?_
  try clear h
  rintro ⟨sl, hp, bs⟩ ⟨rfl, h⟩
  simp only [sls_cons, sls_one, sls_nil] at h
  refine vc_cut (fun st => conB c vs.length = 0 ∧ greatB vs = false ∧ At [(1, vInts vs), (2, .ptr 0 1 0 0)] [.mem false [] [c.cells]] st) ?_ ?_
  · simp -dsimp [h, hcl, vInts]
    refine gcall (hcon) (by simp -dsimp [h, hcl, vInts]) (by simp -dsimp [h, hcl, vInts]) ?_
    simp -dsimp [h, hcl, vInts]
    by_cases hb : conB c vs.length = 0
    · have hb' := (conR_zero c vs.length).2 hb
      simp -dsimp [h, hb', hb, vInts]
      refine gcall (hnum) (by simp -dsimp [h, hcl, vInts]) (by simp -dsimp [h, hcl, vInts]) ?_
      simp -dsimp [h, hcl, vInts]
      cases hg : greatB vs
      · simp -dsimp [h, hb, hg, At, vInts]
      · have hH : holdsB c vs = false := by unfold holdsB; rw [hg]; simp
        simp -dsimp [h, hg, hH, hallmarkref4_Holds.rs]
    · have hb' : ¬ conR c vs.length = 0 := fun e => hb ((conR_zero c vs.length).1 e)
      have hH : holdsB c vs = false := by unfold holdsB; simp [hb]
      simp -dsimp [h, hb', hb, hH, hallmarkref4_Holds.rs]
  try clear h
  rintro ⟨sl, hp, bs⟩ ⟨hb, hg, rfl, h⟩
  simp only [sls_cons, sls_one, sls_nil] at h
  obtain ⟨n, hn, hcn⟩ := conB_some hb
  have hK := ConOk.of hcn
  have hP : AtP c.xs vs := ⟨hK.xsN, hK.xs⟩
  have hH : holdsB c vs = holdsK c (atI vs) := by simp [holdsB, hb, hg]
  rw [hH]
  obtain ⟨kk, hkk⟩ : ∃ kk, kk = c.kind := ⟨_, rfl⟩
  have hck : c.cells = [V.i kk, V.i c.op, vTerms c.terms, V.i c.k, V.i c.v, V.i c.x, V.i c.y, vInts c.xs, vInts c.table, vIntss c.rows] := by rw [hkk]; rfl
  have hAt : ∀ x : Int, 0 ≤ x → x < vs.length → ∃ n : Nat, x = (n : Int) ∧ n < vs.length ∧ (∃ h : n < vs.length, vs[n] = atI vs x) ∧ (-1000000000 ≤ atI vs x ∧ atI vs x ≤ 1000000000) := fun x h0 h1 => by
    obtain ⟨n, e, hn, hn', hv⟩ := at_get h0 h1
    exact ⟨n, e, hn, ⟨hn', hv⟩, great_at hg h0 h1⟩
  rcases needs_kind hn with ⟨k, a, b⟩ | ⟨k, a, b⟩ | ⟨k, a⟩ | ⟨k, a, b⟩ | ⟨k, a, b⟩ | ⟨k, a, b⟩ | ⟨k, a⟩ | ⟨k, a, b⟩ | ⟨k, a, b⟩ <;> rw [k] at hkk <;> subst hkk
  · have hs := sumR_spec c.terms vs hK.termsN hK.terms hg
    have hl := linearR_spec c.op (sumI (atI vs) c.terms) c.k (conN_op hcn a)
    have hR : holdsK c (atI vs) = opB c.op (sumI (atI vs) c.terms) c.k := by unfold holdsK; rw [if_pos k]
    rw [hR]
    simp -dsimp [h, hck, vInts, vTerms]
    refine gcall (hs) (by simp -dsimp [h, hck, vInts, vTerms]) (by simp -dsimp [h, hck, vInts, vTerms]) ?_
    simp -dsimp [h, hck, vInts, vTerms]
    refine gcall (hl) (by simp -dsimp [h, hck, vInts, vTerms, hallmarkref4_Holds.rs]) (by simp -dsimp [h, hck, vInts, vTerms, hallmarkref4_Holds.rs]) ?_
    simp -dsimp [h, hck, vInts, vTerms, hallmarkref4_Holds.rs]
    done
  · obtain ⟨p, hp, hpl, ⟨hpl', hpv⟩, hp1⟩ := hAt c.x (hK.x a).1 (hK.x a).2
    obtain ⟨q, hq, hql, ⟨hql', hqv⟩, hq1⟩ := hAt c.y (hK.y b).1 (hK.y b).2
    have kk1 := hK.k
    have hR : holdsK c (atI vs) = decide (atI vs c.x ≠ atI vs c.y + c.k) := by unfold holdsK; rw [if_neg (by omega), if_pos k]
    rw [hR]
    obtain ⟨gx, hgx⟩ : ∃ gx, gx = atI vs c.x := ⟨_, rfl⟩
    obtain ⟨gy, hgy⟩ : ∃ gy, gy = atI vs c.y := ⟨_, rfl⟩
    rw [← hgx] at hpv hp1 ⊢
    rw [← hgy] at hqv hq1 ⊢
    have hw : IntKind.i64.wrap (gy + c.k) = gy + c.k := by rw [wrap64] <;> omega
    by_cases e : gx = gy + c.k
    · simp -dsimp [h, hck, vInts, hp, hpl, hq, hql, hpv, hqv, hw, e, hallmarkref4_Holds.rs]
    · simp -dsimp [h, hck, vInts, hp, hpl, hq, hql, hpv, hqv, hw, e, hallmarkref4_Holds.rs]
  · have hd := differentR_spec c.xs vs hP
    have hR : holdsK c (atI vs) = decide ((valsAt c.xs vs).Nodup) := by unfold holdsK; rw [if_neg (by omega), if_neg (by omega), if_pos k]; rfl
    rw [hR]
    simp -dsimp [h, hck, vInts]
    refine gcall (hd) (by simp -dsimp [h, hck, vInts, hallmarkref4_Holds.rs]) (by simp -dsimp [h, hck, vInts, hallmarkref4_Holds.rs]) ?_
    simp -dsimp [h, hck, vInts, hallmarkref4_Holds.rs]
  · obtain ⟨p, hp, hpl, ⟨hpl', hpv⟩, hp1⟩ := hAt c.x (hK.x a).1 (hK.x a).2
    obtain ⟨q, hq, hql, ⟨hql', hqv⟩, hq1⟩ := hAt c.y (hK.y b).1 (hK.y b).2
    have hR : holdsK c (atI vs) = (decide (0 ≤ atI vs c.x) && decide (atI vs c.x < c.table.length) && decide (atI vs c.y = atI c.table (atI vs c.x))) := by unfold holdsK; rw [if_neg (by omega), if_neg (by omega), if_neg (by omega), if_pos k]
    rw [hR]
    obtain ⟨gx, hgx⟩ : ∃ gx, gx = atI vs c.x := ⟨_, rfl⟩
    obtain ⟨gy, hgy⟩ : ∃ gy, gy = atI vs c.y := ⟨_, rfl⟩
    rw [← hgx] at hpv hp1 ⊢
    rw [← hgy] at hqv hq1 ⊢
    by_cases e1 : 0 ≤ gx
    · by_cases e2 : gx < c.table.length
      · obtain ⟨t, ht, htl, htl', htv⟩ := at_get e1 e2
        subst ht
        obtain ⟨gt', hgt⟩ : ∃ g, g = atI c.table (t : Int) := ⟨_, rfl⟩
        rw [← hgt] at htv ⊢
        by_cases e3 : gy = gt'
        · simp -dsimp [h, hck, vInts, hp, hpl, hq, hql, hpv, hqv, e1, e2, htl, htv, e3, hallmarkref4_Holds.rs]
        · have e3' : ¬ gt' = gy := fun e => e3 e.symm
          simp -dsimp [h, hck, vInts, hp, hpl, hq, hql, hpv, hqv, e1, e2, htl, htv, e3, e3', hallmarkref4_Holds.rs]
      · simp -dsimp [h, hck, vInts, hp, hpl, hq, hql, hpv, hqv, e1, e2, hallmarkref4_Holds.rs]
    · simp -dsimp [h, hck, vInts, hp, hpl, hq, hql, hpv, hqv, e1, hallmarkref4_Holds.rs]
  · obtain ⟨q, hq, hql, ⟨hql', hqv⟩, hq1⟩ := hAt c.y (hK.y a).1 (hK.y a).2
    have hne : valsAt c.xs vs ≠ [] := fun e => by
      have h1 := hK.xs1 b
      have h2 := valsAt_len c.xs vs
      rw [e] at h2; simp at h2; omega
    have hd := bestR_spec (atI vs c.y) (1) c.xs vs hP hg hq1 (by simp)
    rw [bestB_max hne] at hd
    have hR : holdsK c (atI vs) = decide (atI vs c.y = maxI (valsAt c.xs vs)) := by unfold holdsK; rw [if_neg (by omega), if_neg (by omega), if_neg (by omega), if_neg (by omega), if_pos k]; rfl
    rw [hR]
    obtain ⟨gy, hgy⟩ : ∃ gy, gy = atI vs c.y := ⟨_, rfl⟩
    rw [← hgy] at hqv hq1 hd ⊢
    simp -dsimp [h, hck, vInts, hq, hql, hqv]
    refine gcall (hd) (by simp -dsimp [h, hck, vInts, hq, hql, hqv, hallmarkref4_Holds.rs]) (by simp -dsimp [h, hck, vInts, hq, hql, hqv, hallmarkref4_Holds.rs]) ?_
    simp -dsimp [h, hck, vInts, hq, hql, hqv, hallmarkref4_Holds.rs]
  · obtain ⟨q, hq, hql, ⟨hql', hqv⟩, hq1⟩ := hAt c.y (hK.y a).1 (hK.y a).2
    have hne : valsAt c.xs vs ≠ [] := fun e => by
      have h1 := hK.xs1 b
      have h2 := valsAt_len c.xs vs
      rw [e] at h2; simp at h2; omega
    have hd := bestR_spec (atI vs c.y) (-1) c.xs vs hP hg hq1 (by simp)
    rw [bestB_min hne] at hd
    have hR : holdsK c (atI vs) = decide (atI vs c.y = minI (valsAt c.xs vs)) := by unfold holdsK; rw [if_neg (by omega), if_neg (by omega), if_neg (by omega), if_neg (by omega), if_neg (by omega), if_pos k]; rfl
    rw [hR]
    obtain ⟨gy, hgy⟩ : ∃ gy, gy = atI vs c.y := ⟨_, rfl⟩
    rw [← hgy] at hqv hq1 hd ⊢
    simp -dsimp [h, hck, vInts, hq, hql, hqv]
    refine gcall (hd) (by simp -dsimp [h, hck, vInts, hq, hql, hqv, hallmarkref4_Holds.rs]) (by simp -dsimp [h, hck, vInts, hq, hql, hqv, hallmarkref4_Holds.rs]) ?_
    simp -dsimp [h, hck, vInts, hq, hql, hqv, hallmarkref4_Holds.rs]
  · obtain ⟨p, hp, hpl, ⟨hpl', hpv⟩, hp1⟩ := hAt c.x (hK.x a).1 (hK.x a).2
    have hs := sumR_spec c.terms vs hK.termsN hK.terms hg
    obtain ⟨S, hS⟩ : ∃ S, S = sumI (atI vs) c.terms := ⟨_, rfl⟩
    have hR : holdsK c (atI vs) = (if S ≤ c.k then decide (atI vs c.x = 1) else decide (atI vs c.x = 0)) := by unfold holdsK; rw [if_neg (by omega), if_neg (by omega), if_neg (by omega), if_neg (by omega), if_neg (by omega), if_neg (by omega), if_pos k, hS]
    rw [hR]
    rw [← hS] at hs
    obtain ⟨gx, hgx⟩ : ∃ gx, gx = atI vs c.x := ⟨_, rfl⟩
    rw [← hgx] at hpv hp1 ⊢
    simp -dsimp [h, hck, vInts, vTerms, hp, hpl, hpv]
    refine gcall (hs) (by simp -dsimp [h, hck, vInts, vTerms, hp, hpl, hpv]) (by simp -dsimp [h, hck, vInts, vTerms, hp, hpl, hpv]) ?_
    simp -dsimp [h, hck, vInts, vTerms, hp, hpl, hpv]
    by_cases e : S ≤ c.k
    · by_cases e1 : gx = 1 <;> simp -dsimp [h, e, e1, hallmarkref4_Holds.rs]
    · by_cases e1 : gx = 0 <;> simp -dsimp [h, e, e1, hallmarkref4_Holds.rs]
  · have hd := tabledR_spec c vs hP hrl (conN_wide hcn a)
    have hR : holdsK c (atI vs) = c.rows.any fun r => decide (r = valsAt c.xs vs) := by unfold holdsK; rw [if_neg (by omega), if_neg (by omega), if_neg (by omega), if_neg (by omega), if_neg (by omega), if_neg (by omega), if_neg (by omega), if_pos k]; rfl
    rw [hR]
    rw [hck] at hd
    simp -dsimp [h, hck, vInts]
    refine gcall (hd) (by simp -dsimp [h, hck, vInts, vTerms, vIntss, hallmarkref4_Holds.rs]) (by simp -dsimp [h, hck, vInts, vTerms, vIntss, hallmarkref4_Holds.rs]) ?_
    simp -dsimp [h, hck, vInts, vTerms, vIntss, hallmarkref4_Holds.rs]
  · have hd := countedR_spec c vs hP (conN_op hcn a)
    have hR : holdsK c (atI vs) = opB c.op ((c.xs.filter fun x => decide (atI vs x = c.v)).length) c.k := by unfold holdsK; rw [if_neg (by omega), if_neg (by omega), if_neg (by omega), if_neg (by omega), if_neg (by omega), if_neg (by omega), if_neg (by omega), if_neg (by omega)]
    rw [hR]
    rw [hck] at hd
    simp -dsimp [h, hck, vInts]
    refine gcall (hd) (by simp -dsimp [h, hck, vInts, vTerms, vIntss, hallmarkref4_Holds.rs]) (by simp -dsimp [h, hck, vInts, vTerms, vIntss, hallmarkref4_Holds.rs]) ?_
    simp -dsimp [h, hck, vInts, vTerms, vIntss, hallmarkref4_Holds.rs]
end Go.Abs.G

namespace Go.Abs.G
open Go.Proofs
set_option linter.unusedVariables false
set_option linter.unusedSimpArgs false

end Go.Abs.G

namespace Go.Abs.G
open Go.Proofs
set_option linter.unusedVariables false
set_option linter.unusedSimpArgs false

end Go.Abs.G

namespace Go.Abs.G
open Go.Proofs
set_option linter.unusedVariables false
set_option linter.unusedSimpArgs false

structure ConLen (c : Con) : Prop where
  terms : c.terms.length ≤ maxLen
  xs : c.xs.length ≤ maxLen
  table : c.table.length ≤ maxLen
  rows : c.rows.length ≤ maxLen
  row : ∀ r ∈ c.rows, r.length ≤ maxLen
theorem sameConR_self (c : Con) (hc : ConLen c) : Pf Tryz.prog hallmarkref4_sameCon.id [.agg c.cells, .agg c.cells] (.bool true) := by
  refine DC.of hallmarkref4_sameCon.ok (by simp) ?_
  unfold hallmarkref4_sameCon.ir
  have hcc : c.cells = [V.i c.kind, V.i c.op, vTerms c.terms, V.i c.k, V.i c.v, V.i c.x, V.i c.y, vInts c.xs, vInts c.table, vIntss c.rows] := rfl
  have c1 := sameRowsR_self c.rows hc.rows hc.row
  have c2 := sameTermsR_self c.terms hc.terms
  have c3 := sameIntsR_self c.xs hc.xs
  have c4 := sameIntsR_self c.table hc.table
  refine vc_cut (At [(2, .ptr 0 1 0 0), (3, .ptr 1 1 0 0)] [.mem false [] [c.cells], .mem false [] [c.cells]]) (by simp -dsimp [At]) ?_
  try clear h
  rintro ⟨sl, hp, bs⟩ ⟨rfl, h⟩
  simp only [sls_cons, sls_one, sls_nil] at h
  simp -dsimp [h, hcc, vInts, vTerms, vIntss]
  refine gcall (c1) (by simp -dsimp [h, hcc, vInts, vTerms, vIntss]) (by simp -dsimp [h, hcc, vInts, vTerms, vIntss]) ?_
  simp -dsimp [h, hcc, vInts, vTerms, vIntss]
  refine gcall (c2) (by simp -dsimp [h, hcc, vInts, vTerms, vIntss]) (by simp -dsimp [h, hcc, vInts, vTerms, vIntss]) ?_
  simp -dsimp [h, hcc, vInts, vTerms, vIntss]
  refine gcall (c3) (by simp -dsimp [h, hcc, vInts, vTerms, vIntss]) (by simp -dsimp [h, hcc, vInts, vTerms, vIntss]) ?_
  simp -dsimp [h, hcc, vInts, vTerms, vIntss]
  refine gcall (c4) (by simp -dsimp [h, hcc, vInts, vTerms, vIntss, hallmarkref4_sameCon.rs]) (by simp -dsimp [h, hcc, vInts, vTerms, vIntss, hallmarkref4_sameCon.rs]) ?_
  simp -dsimp [h, hcc, vInts, vTerms, vIntss, hallmarkref4_sameCon.rs]

structure ModLen (m : Model) : Prop where
  vars : m.vars.length ≤ maxLen
  cons : m.cons.length ≤ maxLen
  con : ∀ c ∈ m.cons, ConLen c
  goal : m.goal.length ≤ maxLen
theorem sameR_self (m : Model) (hm : ModLen m) : Pf Tryz.prog hallmarkref4_Same.id [.agg m.cells, .agg m.cells] (.bool true) := by
  have hM : (maxLen : Int) ≤ 9223372036854775807 := by decide
  have q1 := hm.vars
  have q2 := hm.cons
  refine DC.of hallmarkref4_Same.ok (by simp) ?_
  unfold hallmarkref4_Same.ir
  have hmc : m.cells = [vVars m.vars, vCons m.cons, .bool m.hasGoal, vTerms m.goal] := rfl
  have c2 := sameTermsR_self m.goal hm.goal
  obtain ⟨B, hB⟩ : ∃ B, B = O.mem false [] [m.cells] := ⟨_, rfl⟩
  have hBr : B.refs = [] := by rw [hB]; rfl
  refine vc_cut (At [(2, .ptr 0 1 0 0), (3, .ptr 1 1 0 0)] [B, B]) (by simp -dsimp [At, hB]) ?_
  try clear h
  rintro ⟨sl, hp, bs⟩ ⟨rfl, h⟩
  simp only [sls_cons, sls_one, sls_nil] at h
  refine vc_cut (At [(2, .ptr 0 1 0 0), (3, .ptr 1 1 0 0)] [B, B]) ?_ ?_
  · simp -dsimp [h, hB, hmc, vVars, vCons, vTerms]
    refine gcall (c2) (by simp -dsimp [h, hB, hmc, vVars, vCons, vTerms, At]) (by simp -dsimp [h, hB, hmc, vVars, vCons, vTerms, At]) ?_
    simp -dsimp [h, hB, hmc, vVars, vCons, vTerms, At]
  try clear h
  rintro ⟨sl, hp, bs⟩ ⟨rfl, h⟩
  simp only [sls_cons, sls_one, sls_nil] at h
  refine vc_cut (At [(2, .ptr 0 1 0 0), (3, .ptr 1 1 0 0)] [B, B]) ?_ ?_
  · refine vc_cut (At [(2, .ptr 0 1 0 0), (3, .ptr 1 1 0 0), (5, V.i 0)] [B, B]) (by simp -dsimp [h, At]) ?_
    try clear h
    rintro ⟨sl, hp, bs⟩ ⟨rfl, h⟩
    simp only [sls_cons, sls_one, sls_nil] at h
    refine vc_block_of (vc_upto 2 (by simp) m.vars.length (fun i st => At [(2, .ptr 0 1 0 0), (3, .ptr 1 1 0 0), (5, V.i i)] [B, B] st) ⟨rfl, by simpa using h⟩ ?_)
    clear h
    rintro i ⟨sl, hp', bs⟩ hi ⟨rfl, h⟩
    simp only [sls_cons, sls_one] at h
    unfold hallmarkref4_Same.b0
    by_cases hil : i < m.vars.length
    · have hil' : (i : Int) < m.vars.length := by omega
      have hw : IntKind.i64.wrap ((i : Int) + 1) = ((i + 1 : Nat) : Int) := by rw [wrap64] <;> omega
      refine vc_cut (At [(2, .ptr 0 1 0 0), (3, .ptr 1 1 0 0), (5, V.i i)] [B, B]) (by simp -dsimp [h, At, hil, hil', hB, hmc, vVars]) ?_
      try clear h
      rintro ⟨sl, hp, bs⟩ ⟨rfl, h⟩
      simp only [sls_cons, sls_one, sls_nil] at h
      refine vc_cut (At [(2, .ptr 0 1 0 0), (3, .ptr 1 1 0 0), (5, V.i i)] [B, B]) (by refine vc_block_of ?_; simp -dsimp [h, At, hil, hil', hB, hmc, vVars, Var.cells]) ?_
      try clear h
      rintro ⟨sl, hp, bs⟩ ⟨rfl, h⟩
      simp only [sls_cons, sls_one, sls_nil] at h
      simp -dsimp [h, At, hw, hil, hBr]
    · have hil' : ¬ (i : Int) < m.vars.length := by omega
      simp -dsimp [h, hil, hil', hB, hmc, vVars, At]
  try clear h
  rintro ⟨sl, hp, bs⟩ ⟨rfl, h⟩
  simp only [sls_cons, sls_one, sls_nil] at h
  refine vc_cut (At [] [B, B]) ?_ ?_
  · refine vc_cut (At [(2, .ptr 0 1 0 0), (3, .ptr 1 1 0 0), (6, V.i 0)] [B, B]) (by simp -dsimp [h, At]) ?_
    try clear h
    rintro ⟨sl, hp, bs⟩ ⟨rfl, h⟩
    simp only [sls_cons, sls_one, sls_nil] at h
    refine vc_block_of (vc_upto 2 (by simp) m.cons.length (fun i st => At [(2, .ptr 0 1 0 0), (3, .ptr 1 1 0 0), (6, V.i i)] [B, B] st) ⟨rfl, by simpa using h⟩ ?_)
    clear h
    rintro i ⟨sl, hp', bs⟩ hi ⟨rfl, h⟩
    simp only [sls_cons, sls_one] at h
    unfold hallmarkref4_Same.b1
    by_cases hil : i < m.cons.length
    · have hil' : (i : Int) < m.cons.length := by omega
      have hw : IntKind.i64.wrap ((i : Int) + 1) = ((i + 1 : Nat) : Int) := by rw [wrap64] <;> omega
      refine vc_cut (At [(2, .ptr 0 1 0 0), (3, .ptr 1 1 0 0), (6, V.i i)] [B, B]) (by simp -dsimp [h, At, hil, hil', hB, hmc, vCons]) ?_
      try clear h
      rintro ⟨sl, hp, bs⟩ ⟨rfl, h⟩
      simp only [sls_cons, sls_one, sls_nil] at h
      have hh := sameConR_self m.cons[i] (hm.con _ (List.getElem_mem hil))
      refine vc_cut (At [(2, .ptr 0 1 0 0), (3, .ptr 1 1 0 0), (6, V.i i)] [B, B]) ?_ ?_
      · refine vc_block_of ?_
        simp -dsimp [h, hil, hil', hB, hmc, vCons]
        refine gcall (hh) (by simp -dsimp [h, hil, hB, hmc, vCons, At]) (by simp -dsimp [h, hil, hB, hmc, vCons, At]) ?_
        simp -dsimp [h, hil, hB, hmc, vCons, At]
      try clear h
      rintro ⟨sl, hp, bs⟩ ⟨rfl, h⟩
      simp only [sls_cons, sls_one, sls_nil] at h
      simp -dsimp [h, At, hw, hil, hBr]
    · have hil' : ¬ (i : Int) < m.cons.length := by omega
      simp -dsimp [h, hil, hil', hB, hmc, vCons, At]
  try clear h
  rintro ⟨sl, hp, bs⟩ ⟨rfl, h⟩
  simp only [sls_cons, sls_one, sls_nil] at h
  simp -dsimp [h, hallmarkref4_Same.rs]
end Go.Abs.G

/- A nil slice in a cell, as a slice of one's own without elements. -/
namespace Go.Abs
set_option linter.unusedVariables false
theorem Weak.nilc (id i j es : Nat) {st : St} {refs : List Nat} {rows : List (List V)} {row : List V} (hid : st.hp[id]? = some (.mem false refs rows)) (hrow : rows[i]? = some row) (hx : row[j]? = some (.a (.slice none 0 0)))
    (hrefs : ∀ (i' : Nat) (row' : List V), rows[i']? = some row' → ∀ (j' : Nat) (y : V), row'[j']? = some y → ∀ k ∈ y.ids, k ∈ refs) :
    Weak st { st with hp := st.hp.set id (.mem false (refs ++ [st.hp.length]) (rows.set i (row.set j (.own st.hp.length es 0 0 0)))) ++ [.mem false [] []] } := by
  have hlt := lt_of_get hid
  refine ⟨rfl, fun k hk => ?_, by simp, fun w β F N a hR => ?_⟩
  · show (st.hp.set id _ ++ _)[k]? = _
    have hne : k ≠ id := by rintro rfl; rw [hid] at hk; simp at hk
    rw [List.getElem?_append_left (by rw [List.length_set]; exact lt_of_get hk), getElem?_set_ne' hne]; exact hk
  · have a1 := adv_res (F := F) hR.hok 1
    have hg : (st.hp ++ List.replicate 1 O.res)[st.hp.length]? = some O.res := by simp
    have a2 := new_nil (es := es) (refs := []) (F := F) a1.hok hg
    have e : (st.hp ++ List.replicate 1 O.res).set st.hp.length (.mem false [] []) = st.hp ++ [.mem false [] []] := by
      rw [List.set_append, if_neg (by omega), Nat.sub_self]; rfl
    have a3 : ∀ ad : Option Addr, RV (cx w.heap (st.hp ++ [.mem false [] []]) (upd β st.hp.length ⟨0, 0, 0, es, 0, true, 0, noSub⟩) F) (.slice ad 0 0) (.own st.hp.length es 0 0 0) := fun ad => by
      have := nil_own (es := es) (refs := []) (ad := ad) (hp := w.heap) (F := F) (β := β) hg
      rw [e] at this; exact this
    rw [e] at a2
    have adv := a1.trans a2
    have hid' : (st.hp ++ [O.mem false [] []])[id]? = some (.mem false refs rows) := by
      rw [List.getElem?_append_left hlt]; exact hid
    have only : ∀ {v : Value} {y : V}, RV ((cx w.heap (st.hp ++ [.mem false [] []]) (upd β st.hp.length ⟨0, 0, 0, es, 0, true, 0, noSub⟩) F).only refs) v y → (∀ k ∈ y.ids, k ∈ refs ++ [st.hp.length]) → RV ((cx w.heap (st.hp ++ [.mem false [] []]) (upd β st.hp.length ⟨0, 0, 0, es, 0, true, 0, noSub⟩) F).only (refs ++ [st.hp.length])) v y := fun hv h =>
      (hv.onlyOf (refs ++ [st.hp.length]) h).mono ⟨Nat.le_refl _, fun _ _ hn => ⟨rfl, hn⟩, fun k hl => ⟨hl.1, hl.2.2⟩, fun _ _ _ e => .inl e⟩
    have a4 := adv_cells (refs' := refs ++ [st.hp.length]) (rows' := rows.set i (row.set j (.own st.hp.length es 0 0 0))) adv.hok hid' (by simp) (fun i' row' hi' => by
      by_cases e : i = i'
      · subst e
        rw [List.getElem?_set_self (lt_of_get hrow)] at hi'
        injection hi' with hi'
        subst hi'
        refine ⟨row, hrow, by simp, fun j' x' hj' => ?_⟩
        by_cases ej : j = j'
        · subst ej
          rw [List.getElem?_set_self (lt_of_get hx)] at hj'
          injection hj' with hj'
          subst hj'
          refine ⟨_, hx, fun v hv => ?_⟩
          rw [hv.of_a]
          exact (a3 none).onlyOf _ (by simp [V.ids])
        · rw [List.getElem?_set_ne ej] at hj'
          exact ⟨x', hj', fun v hv => only hv fun k hk => List.mem_append_left _ (hrefs i row hrow j' x' hj' k hk)⟩
      · rw [List.getElem?_set_ne e] at hi'
        exact ⟨row', hi', rfl, fun j' x' hj' => ⟨x', hj', fun v hv => only hv fun k hk => List.mem_append_left _ (hrefs i' row' hi' j' x' hj' k hk)⟩⟩)
    have hset : (st.hp ++ [O.mem false [] []]).set id (.mem false (refs ++ [st.hp.length]) (rows.set i (row.set j (.own st.hp.length es 0 0 0)))) = st.hp.set id (.mem false (refs ++ [st.hp.length]) (rows.set i (row.set j (.own st.hp.length es 0 0 0)))) ++ [.mem false [] []] := by
      rw [List.set_append, if_pos hlt]
    rw [hset] at a4
    have a5 := adv.trans a4
    exact ⟨_, a5, hR.adv a5⟩
end Go.Abs

namespace Go.Abs
set_option linter.unusedVariables false
theorem Weak.trans {a b c : St} (h : Weak a b) (k : Weak b c) : Weak a c := by
  obtain ⟨h1, h2, h3, h4⟩ := h
  obtain ⟨k1, k2, k3, k4⟩ := k
  refine ⟨k1.trans h1, fun i e => k2 i (h2 i e), Nat.le_trans h3 k3, fun w β F N act hR => ?_⟩
  obtain ⟨β', h5, h6⟩ := h4 w β F N act hR
  obtain ⟨β'', k5, k6⟩ := k4 w β' F N act h6
  exact ⟨β'', h5.trans k5, k6⟩
namespace G
def rmRowK (k ni nt nv nl nc : Nat) : List V := [.own (k + 1) 1 0 ni ni, .own (k + 2) 1 0 ni ni, nilS, nilS, .own (k + 3) 1 0 nt nt, .own (k + 4) 1 0 nt nt, .own (k + 5) 1 0 nv nv, .own (k + 6) 1 0 nv nv, nilS, nilS, nilS, nilS, nilS, nilS, nilS, nilS, .own (k + 7) 1 0 nl nl, .own (k + 8) 1 0 nl nl, .own (k + 9) 1 0 nc nc, .own (k + 10) 1 0 nc nc, nilS, nilS, nilS, nilS, nilS, nilS, nilS, nilS]
/-- A Room whose struct is object k. -/
def Rmk (k : Nat) (s : RmS) : Heap := [.mem false [k + 1, k + 2, k + 3, k + 4, k + 5, k + 6, k + 7, k + 8, k + 9, k + 10] [rmRowK k s.i.1.length s.t.1.length s.v.1.length s.l.1.length s.c.1.length],
  .mem false [] (s.i.1.map fun f => [.view 1 f]), .mem false [] (ri s.i.2), .mem false [] (s.t.1.map fun f => [.view 2 f]), .mem false [] (ri s.t.2), .mem false [] (s.v.1.map fun f => [.view 3 f]), .mem false [] (ri s.v.2), .mem false [] (s.l.1.map fun f => [.view 1 f]), .mem false [] (ri s.l.2), .mem false [] (s.c.1.map fun f => [.view 10 f]), .mem false [] (ri s.c.2)]
def rm0 : RmS := ⟨([], []), ([], []), ([], []), ([], []), ([], [])⟩
theorem rm0_le : RmLe rm0 0 := ⟨⟨.nil _, .nil _, .nil _, .nil _, .nil _⟩, by simp [rm0], by simp [rm0], by simp [rm0], by simp [rm0], by simp [rm0]⟩
def room0 : List V := [nilS, nilS, nilS, nilS, nilS, nilS, nilS, nilS, nilS, nilS, nilS, nilS, nilS, nilS, nilS, nilS, nilS, nilS, nilS, nilS, nilS, nilS, nilS, nilS, nilS, nilS, nilS, nilS]
theorem Weak.nilc1 (k j : Nat) {sl : Sl} {P : Heap} {bs : Nat} {refs : List Nat} {row : List V} {E : Heap} (hk : P.length = k) (hx : row[j]? = some nilS) (hrefs : ∀ (j' : Nat) (y : V), row[j']? = some y → ∀ i ∈ y.ids, i ∈ refs) :
    Weak { sl := sl, hp := P ++ .mem false refs [row] :: E, bs := bs } { sl := sl, hp := P ++ .mem false (refs ++ [k + 1 + E.length]) [row.set j (.own (k + 1 + E.length) 1 0 0 0)] :: (E ++ [.mem false [] []]), bs := bs } := by
  have h := Weak.nilc (st := { sl := sl, hp := P ++ .mem false refs [row] :: E, bs := bs }) k 0 j 1 (refs := refs) (rows := [row]) (row := row) (by subst hk; simp) rfl hx (fun i' row' hi' => by
    cases i' with
    | zero => obtain rfl : row = row' := by simpa using hi'
              exact hrefs
    | succ n => simp at hi')
  have e1 : (P ++ .mem false refs [row] :: E).length = k + 1 + E.length := by simp [hk]; omega
  rw [e1] at h
  have e2 : (P ++ O.mem false refs [row] :: E).set k (.mem false (refs ++ [k + 1 + E.length]) (([row] : List (List V)).set 0 (row.set j (.own (k + 1 + E.length) 1 0 0 0)))) ++ [.mem false [] []] = P ++ .mem false (refs ++ [k + 1 + E.length]) [row.set j (.own (k + 1 + E.length) 1 0 0 0)] :: (E ++ [.mem false [] []]) := by
    subst hk
    simp
  rw [e2] at h
  exact h
end G
end Go.Abs

namespace Go.Abs.G
open Go.Proofs
set_option linter.unusedVariables false
set_option linter.unusedSimpArgs false
theorem Weak.room (k : Nat) {sl : Sl} {P : Heap} {bs : Nat} (hk : P.length = k) : Weak { sl := sl, hp := P ++ [.mem false [] [room0]], bs := bs } { sl := sl, hp := P ++ Rmk k rm0, bs := bs } := by
  have h0 := Weak.nilc1 k 0 (sl := sl) (P := P) (bs := bs) (refs := []) (row := [nilS, nilS, nilS, nilS, nilS, nilS, nilS, nilS, nilS, nilS, nilS, nilS, nilS, nilS, nilS, nilS, nilS, nilS, nilS, nilS, nilS, nilS, nilS, nilS, nilS, nilS, nilS, nilS]) (E := []) hk rfl (by
    intro j' y hy i hi
    have hm := List.mem_of_getElem? hy
    simp only [List.mem_cons, List.not_mem_nil, or_false] at hm
    rcases hm with rfl | rfl | rfl | rfl | rfl | rfl | rfl | rfl | rfl | rfl | rfl | rfl | rfl | rfl | rfl | rfl | rfl | rfl | rfl | rfl | rfl | rfl | rfl | rfl | rfl | rfl | rfl | rfl <;> simp [V.ids, nilS] at hi ⊢)
  have h1 := Weak.nilc1 k 1 (sl := sl) (P := P) (bs := bs) (refs := [k + 1]) (row := [.own (k + 1) 1 0 0 0, nilS, nilS, nilS, nilS, nilS, nilS, nilS, nilS, nilS, nilS, nilS, nilS, nilS, nilS, nilS, nilS, nilS, nilS, nilS, nilS, nilS, nilS, nilS, nilS, nilS, nilS, nilS]) (E := [.mem false [] []]) hk rfl (by
    intro j' y hy i hi
    have hm := List.mem_of_getElem? hy
    simp only [List.mem_cons, List.not_mem_nil, or_false] at hm
    rcases hm with rfl | rfl | rfl | rfl | rfl | rfl | rfl | rfl | rfl | rfl | rfl | rfl | rfl | rfl | rfl | rfl | rfl | rfl | rfl | rfl | rfl | rfl | rfl | rfl | rfl | rfl | rfl | rfl <;> simp [V.ids, nilS] at hi ⊢ <;> omega)
  have h2 := Weak.nilc1 k 4 (sl := sl) (P := P) (bs := bs) (refs := [k + 1, k + 2]) (row := [.own (k + 1) 1 0 0 0, .own (k + 2) 1 0 0 0, nilS, nilS, nilS, nilS, nilS, nilS, nilS, nilS, nilS, nilS, nilS, nilS, nilS, nilS, nilS, nilS, nilS, nilS, nilS, nilS, nilS, nilS, nilS, nilS, nilS, nilS]) (E := [.mem false [] [], .mem false [] []]) hk rfl (by
    intro j' y hy i hi
    have hm := List.mem_of_getElem? hy
    simp only [List.mem_cons, List.not_mem_nil, or_false] at hm
    rcases hm with rfl | rfl | rfl | rfl | rfl | rfl | rfl | rfl | rfl | rfl | rfl | rfl | rfl | rfl | rfl | rfl | rfl | rfl | rfl | rfl | rfl | rfl | rfl | rfl | rfl | rfl | rfl | rfl <;> simp [V.ids, nilS] at hi ⊢ <;> omega)
  have h3 := Weak.nilc1 k 5 (sl := sl) (P := P) (bs := bs) (refs := [k + 1, k + 2, k + 3]) (row := [.own (k + 1) 1 0 0 0, .own (k + 2) 1 0 0 0, nilS, nilS, .own (k + 3) 1 0 0 0, nilS, nilS, nilS, nilS, nilS, nilS, nilS, nilS, nilS, nilS, nilS, nilS, nilS, nilS, nilS, nilS, nilS, nilS, nilS, nilS, nilS, nilS, nilS]) (E := [.mem false [] [], .mem false [] [], .mem false [] []]) hk rfl (by
    intro j' y hy i hi
    have hm := List.mem_of_getElem? hy
    simp only [List.mem_cons, List.not_mem_nil, or_false] at hm
    rcases hm with rfl | rfl | rfl | rfl | rfl | rfl | rfl | rfl | rfl | rfl | rfl | rfl | rfl | rfl | rfl | rfl | rfl | rfl | rfl | rfl | rfl | rfl | rfl | rfl | rfl | rfl | rfl | rfl <;> simp [V.ids, nilS] at hi ⊢ <;> omega)
  have h4 := Weak.nilc1 k 6 (sl := sl) (P := P) (bs := bs) (refs := [k + 1, k + 2, k + 3, k + 4]) (row := [.own (k + 1) 1 0 0 0, .own (k + 2) 1 0 0 0, nilS, nilS, .own (k + 3) 1 0 0 0, .own (k + 4) 1 0 0 0, nilS, nilS, nilS, nilS, nilS, nilS, nilS, nilS, nilS, nilS, nilS, nilS, nilS, nilS, nilS, nilS, nilS, nilS, nilS, nilS, nilS, nilS]) (E := [.mem false [] [], .mem false [] [], .mem false [] [], .mem false [] []]) hk rfl (by
    intro j' y hy i hi
    have hm := List.mem_of_getElem? hy
    simp only [List.mem_cons, List.not_mem_nil, or_false] at hm
    rcases hm with rfl | rfl | rfl | rfl | rfl | rfl | rfl | rfl | rfl | rfl | rfl | rfl | rfl | rfl | rfl | rfl | rfl | rfl | rfl | rfl | rfl | rfl | rfl | rfl | rfl | rfl | rfl | rfl <;> simp [V.ids, nilS] at hi ⊢ <;> omega)
  have h5 := Weak.nilc1 k 7 (sl := sl) (P := P) (bs := bs) (refs := [k + 1, k + 2, k + 3, k + 4, k + 5]) (row := [.own (k + 1) 1 0 0 0, .own (k + 2) 1 0 0 0, nilS, nilS, .own (k + 3) 1 0 0 0, .own (k + 4) 1 0 0 0, .own (k + 5) 1 0 0 0, nilS, nilS, nilS, nilS, nilS, nilS, nilS, nilS, nilS, nilS, nilS, nilS, nilS, nilS, nilS, nilS, nilS, nilS, nilS, nilS, nilS]) (E := [.mem false [] [], .mem false [] [], .mem false [] [], .mem false [] [], .mem false [] []]) hk rfl (by
    intro j' y hy i hi
    have hm := List.mem_of_getElem? hy
    simp only [List.mem_cons, List.not_mem_nil, or_false] at hm
    rcases hm with rfl | rfl | rfl | rfl | rfl | rfl | rfl | rfl | rfl | rfl | rfl | rfl | rfl | rfl | rfl | rfl | rfl | rfl | rfl | rfl | rfl | rfl | rfl | rfl | rfl | rfl | rfl | rfl <;> simp [V.ids, nilS] at hi ⊢ <;> omega)
  have h6 := Weak.nilc1 k 16 (sl := sl) (P := P) (bs := bs) (refs := [k + 1, k + 2, k + 3, k + 4, k + 5, k + 6]) (row := [.own (k + 1) 1 0 0 0, .own (k + 2) 1 0 0 0, nilS, nilS, .own (k + 3) 1 0 0 0, .own (k + 4) 1 0 0 0, .own (k + 5) 1 0 0 0, .own (k + 6) 1 0 0 0, nilS, nilS, nilS, nilS, nilS, nilS, nilS, nilS, nilS, nilS, nilS, nilS, nilS, nilS, nilS, nilS, nilS, nilS, nilS, nilS]) (E := [.mem false [] [], .mem false [] [], .mem false [] [], .mem false [] [], .mem false [] [], .mem false [] []]) hk rfl (by
    intro j' y hy i hi
    have hm := List.mem_of_getElem? hy
    simp only [List.mem_cons, List.not_mem_nil, or_false] at hm
    rcases hm with rfl | rfl | rfl | rfl | rfl | rfl | rfl | rfl | rfl | rfl | rfl | rfl | rfl | rfl | rfl | rfl | rfl | rfl | rfl | rfl | rfl | rfl | rfl | rfl | rfl | rfl | rfl | rfl <;> simp [V.ids, nilS] at hi ⊢ <;> omega)
  have h7 := Weak.nilc1 k 17 (sl := sl) (P := P) (bs := bs) (refs := [k + 1, k + 2, k + 3, k + 4, k + 5, k + 6, k + 7]) (row := [.own (k + 1) 1 0 0 0, .own (k + 2) 1 0 0 0, nilS, nilS, .own (k + 3) 1 0 0 0, .own (k + 4) 1 0 0 0, .own (k + 5) 1 0 0 0, .own (k + 6) 1 0 0 0, nilS, nilS, nilS, nilS, nilS, nilS, nilS, nilS, .own (k + 7) 1 0 0 0, nilS, nilS, nilS, nilS, nilS, nilS, nilS, nilS, nilS, nilS, nilS]) (E := [.mem false [] [], .mem false [] [], .mem false [] [], .mem false [] [], .mem false [] [], .mem false [] [], .mem false [] []]) hk rfl (by
    intro j' y hy i hi
    have hm := List.mem_of_getElem? hy
    simp only [List.mem_cons, List.not_mem_nil, or_false] at hm
    rcases hm with rfl | rfl | rfl | rfl | rfl | rfl | rfl | rfl | rfl | rfl | rfl | rfl | rfl | rfl | rfl | rfl | rfl | rfl | rfl | rfl | rfl | rfl | rfl | rfl | rfl | rfl | rfl | rfl <;> simp [V.ids, nilS] at hi ⊢ <;> omega)
  have h8 := Weak.nilc1 k 18 (sl := sl) (P := P) (bs := bs) (refs := [k + 1, k + 2, k + 3, k + 4, k + 5, k + 6, k + 7, k + 8]) (row := [.own (k + 1) 1 0 0 0, .own (k + 2) 1 0 0 0, nilS, nilS, .own (k + 3) 1 0 0 0, .own (k + 4) 1 0 0 0, .own (k + 5) 1 0 0 0, .own (k + 6) 1 0 0 0, nilS, nilS, nilS, nilS, nilS, nilS, nilS, nilS, .own (k + 7) 1 0 0 0, .own (k + 8) 1 0 0 0, nilS, nilS, nilS, nilS, nilS, nilS, nilS, nilS, nilS, nilS]) (E := [.mem false [] [], .mem false [] [], .mem false [] [], .mem false [] [], .mem false [] [], .mem false [] [], .mem false [] [], .mem false [] []]) hk rfl (by
    intro j' y hy i hi
    have hm := List.mem_of_getElem? hy
    simp only [List.mem_cons, List.not_mem_nil, or_false] at hm
    rcases hm with rfl | rfl | rfl | rfl | rfl | rfl | rfl | rfl | rfl | rfl | rfl | rfl | rfl | rfl | rfl | rfl | rfl | rfl | rfl | rfl | rfl | rfl | rfl | rfl | rfl | rfl | rfl | rfl <;> simp [V.ids, nilS] at hi ⊢ <;> omega)
  have h9 := Weak.nilc1 k 19 (sl := sl) (P := P) (bs := bs) (refs := [k + 1, k + 2, k + 3, k + 4, k + 5, k + 6, k + 7, k + 8, k + 9]) (row := [.own (k + 1) 1 0 0 0, .own (k + 2) 1 0 0 0, nilS, nilS, .own (k + 3) 1 0 0 0, .own (k + 4) 1 0 0 0, .own (k + 5) 1 0 0 0, .own (k + 6) 1 0 0 0, nilS, nilS, nilS, nilS, nilS, nilS, nilS, nilS, .own (k + 7) 1 0 0 0, .own (k + 8) 1 0 0 0, .own (k + 9) 1 0 0 0, nilS, nilS, nilS, nilS, nilS, nilS, nilS, nilS, nilS]) (E := [.mem false [] [], .mem false [] [], .mem false [] [], .mem false [] [], .mem false [] [], .mem false [] [], .mem false [] [], .mem false [] [], .mem false [] []]) hk rfl (by
    intro j' y hy i hi
    have hm := List.mem_of_getElem? hy
    simp only [List.mem_cons, List.not_mem_nil, or_false] at hm
    rcases hm with rfl | rfl | rfl | rfl | rfl | rfl | rfl | rfl | rfl | rfl | rfl | rfl | rfl | rfl | rfl | rfl | rfl | rfl | rfl | rfl | rfl | rfl | rfl | rfl | rfl | rfl | rfl | rfl <;> simp [V.ids, nilS] at hi ⊢ <;> omega)
  exact Weak.trans h0 (Weak.trans h1 (Weak.trans h2 (Weak.trans h3 (Weak.trans h4 (Weak.trans h5 (Weak.trans h6 (Weak.trans h7 (Weak.trans h8 (h9)))))))))

section
variable (p0 : O) (s s' : RmS) (F : Heap)
end
section
variable {s : RmS} {F : Heap} {p0 : O}
@[simp] theorem Rk1_take12 : List.take 12 (p0 :: (Rmk 1 s ++ F)) = p0 :: Rmk 1 s := rfl
@[simp] theorem Rk1_take13 (a : O) : List.take 13 (p0 :: (Rmk 1 s ++ a :: F)) = p0 :: (Rmk 1 s ++ [a]) := rfl
@[simp] theorem Rk1_lim12 : (Rmk 1 s).map (limO 12) = Rmk 1 s := rfl
@[simp] theorem Rk1_lim13 : (Rmk 1 s).map (limO 13) = Rmk 1 s := rfl
@[simp] theorem Rk1_len : (Rmk 1 s).length = 11 := rfl
end

abbrev s11_2 : List Nat := [2, 3, 4, 5, 6, 7, 8, 9, 10, 11, 12]
section
variable (p0 p1 : O) (s s' : RmS) (F : Heap)
theorem Rm2_clos : clos (p0 :: p1 :: (Rmk 2 s ++ F)) 8 [2] = s11_2 := by simp [clos, addAll, O.refs, Rmk]
theorem Rm2_sel : OkSel (p0 :: p1 :: (Rmk 2 s ++ F)) s11_2 := by
  simp [OkSel, O.refs, Rmk]
theorem Rm2_ren : (Rmk 2 s).map (O.ren (idx s11_2)) = Rm s := by
  simp [Rmk, Rm, O.ren, rmRowK, rmRow, V.renL, V.ren, ri, Function.comp_def, nilS, idx, List.idxOf_cons]
theorem Rm2_sub : sub (p0 :: p1 :: (Rmk 2 s ++ F)) s11_2 = Rm s := Rm2_ren s
theorem Rm2_back (n : Nat) : (Rm s).map (O.ren (back s11_2 n)) = Rmk 2 s := by
  simp [Rmk, Rm, O.ren, rmRowK, rmRow, V.renL, V.ren, ri, Function.comp_def, nilS, back]
theorem Rm2_merge : merge (p0 :: p1 :: (Rmk 2 s ++ F)) s11_2 (Rm s') = (p0 :: p1 :: (Rmk 2 s' ++ F)) := by
  have h1 : (Rm s').take 11 = Rm s' := rfl
  have h2 : (Rm s').drop 11 = [] := rfl
  have h3 : s11_2.length = 11 := rfl
  simp only [merge, h3, h1, h2, Rm2_back, List.map_nil, List.append_nil]
  rfl
end
theorem gcallR2 {P : Program} {f : FuncId} {d : Option Nat} {xs : List Operand} {k : St → Prop} {st : St} {s : RmS} {p0 p1 : O} {F : Heap} {zs : List V} {Q : V → RmS → Prop} (hc : DC P f zs (Rm s) fun r H => (∀ g, r.ren g = r) ∧ ∃ s', Q r s' ∧ H = Rm s') (hh : st.hp = (p0 :: p1 :: (Rmk 2 s ++ F)))
    (hi : addAll [] (V.idsL (xs.map st.ev)) = [2]) (ha : V.renL (idx s11_2) (xs.map st.ev) = zs) (hf : okFunc P f = true)
    (hk : ∀ r s', Q r s' → k ({ st with hp := (p0 :: p1 :: (Rmk 2 s' ++ F)) }.put d r)) : IvcF P (.callm d (.func f) xs) k st := by
  refine gcallm_gen hc s11_2 (by rw [hi, hh]; exact Rm2_clos p0 p1 s F) (by rw [hh]; exact Rm2_sel p0 p1 s F) ha (by rw [hh]; exact Rm2_sub p0 p1 s F) hf ?_
  rintro r H ⟨hr, s', hq, rfl⟩
  rw [hr, hh, Rm2_merge]
  exact hk r s' hq
section
variable {s : RmS} {F : Heap} {p0 p1 : O}
@[simp] theorem Rk2_take13 : List.take 13 (p0 :: p1 :: (Rmk 2 s ++ F)) = p0 :: p1 :: Rmk 2 s := rfl
@[simp] theorem Rk2_take14 (a : O) : List.take 14 (p0 :: p1 :: (Rmk 2 s ++ a :: F)) = p0 :: p1 :: (Rmk 2 s ++ [a]) := rfl
@[simp] theorem Rk2_lim13 : (Rmk 2 s).map (limO 13) = Rmk 2 s := rfl
@[simp] theorem Rk2_lim14 : (Rmk 2 s).map (limO 14) = Rmk 2 s := rfl
@[simp] theorem Rk2_len : (Rmk 2 s).length = 11 := rfl
end
section
variable {k : Nat} {s : RmS} {F : Heap}
@[simp] theorem RkE_11 (a : O) : (Rmk k s ++ (a :: F))[11]? = some a := rfl
@[simp] theorem RkE_11' (a : O) (h) : (Rmk k s ++ (a :: F))[11]'h = a := rfl
@[simp] theorem RkE_set11 (a x : O) : (Rmk k s ++ (a :: F)).set 11 x = Rmk k s ++ (x :: F) := rfl
@[simp] theorem RkE_take12_0 (a : O) : List.take 12 (Rmk k s ++ [a]) = Rmk k s ++ [a] := rfl
@[simp] theorem RkE_take12_1 (a y0 : O) : List.take 12 (Rmk k s ++ [a, y0]) = Rmk k s ++ [a] := rfl
@[simp] theorem RkE_take12_2 (a y0 y1 : O) : List.take 12 (Rmk k s ++ [a, y0, y1]) = Rmk k s ++ [a] := rfl
@[simp] theorem RkE_12 (a b : O) : (Rmk k s ++ (a :: b :: F))[12]? = some b := rfl
@[simp] theorem RkE_12' (a b : O) (h) : (Rmk k s ++ (a :: b :: F))[12]'h = b := rfl
@[simp] theorem RkE_set12 (a b x : O) : (Rmk k s ++ (a :: b :: F)).set 12 x = Rmk k s ++ (a :: x :: F) := rfl
@[simp] theorem RkE_take13_0 (a b : O) : List.take 13 (Rmk k s ++ [a, b]) = Rmk k s ++ [a, b] := rfl
@[simp] theorem RkE_take13_1 (a b y0 : O) : List.take 13 (Rmk k s ++ [a, b, y0]) = Rmk k s ++ [a, b] := rfl
@[simp] theorem RkE_take13_2 (a b y0 y1 : O) : List.take 13 (Rmk k s ++ [a, b, y0, y1]) = Rmk k s ++ [a, b] := rfl
@[simp] theorem RkE_13 (a b c : O) : (Rmk k s ++ (a :: b :: c :: F))[13]? = some c := rfl
@[simp] theorem RkE_13' (a b c : O) (h) : (Rmk k s ++ (a :: b :: c :: F))[13]'h = c := rfl
@[simp] theorem RkE_set13 (a b c x : O) : (Rmk k s ++ (a :: b :: c :: F)).set 13 x = Rmk k s ++ (a :: b :: x :: F) := rfl
@[simp] theorem RkE_take14_0 (a b c : O) : List.take 14 (Rmk k s ++ [a, b, c]) = Rmk k s ++ [a, b, c] := rfl
@[simp] theorem RkE_take14_1 (a b c y0 : O) : List.take 14 (Rmk k s ++ [a, b, c, y0]) = Rmk k s ++ [a, b, c] := rfl
@[simp] theorem RkE_take14_2 (a b c y0 y1 : O) : List.take 14 (Rmk k s ++ [a, b, c, y0, y1]) = Rmk k s ++ [a, b, c] := rfl
end
end Go.Abs.G

namespace Go.Abs.G
open Go.Proofs
set_option linter.unusedVariables false
set_option linter.unusedSimpArgs false

end Go.Abs.G

namespace Go.Abs.G
open Go.Proofs
set_option linter.unusedVariables false
set_option linter.unusedSimpArgs false

theorem FewCon.conLe {c : Con} (h : FewCon c) : ConLe c := ⟨h.terms, h.xs, h.table, h.rows, h.row⟩
def m1 (c : Con) : Model := ⟨[], [c], false, []⟩
theorem m1_ok {c : Con} (h : okCon c) : okModel (m1 c) := by
  have hM : (1 : Nat) ≤ maxLen := by decide
  exact ⟨⟨Nat.zero_le _, by simp [m1]⟩, ⟨hM, by simpa [m1] using h⟩, ⟨Nat.zero_le _, by simp [m1]⟩⟩
theorem m1_sub (c : Con) : V.sub (.agg [nilS, .view 10 [c.cells], .bool false, nilS]) (.agg (m1 c).cells) :=
  .agg (.cons (.nil 3) (.cons (.refl _) (.cons (.refl _) (.cons (.nil 2) .nil))))

theorem modelHolds_spec (c : Con) (vs : List Int) (hzc : zCon c) (hzv : zInts vs) : Pf Tryz.prog hallmarklaw4_ModelHolds.id [.agg c.cells, vInts vs] (.bool true) := by
  have hok := hzc.1
  have hvl := hzv.1.1
  refine DC.of hallmarklaw4_ModelHolds.ok (by simp) ?_
  unfold hallmarklaw4_ModelHolds.ir
  have hcl : c.cells.length = 10 := rfl
  obtain ⟨A, hA⟩ : ∃ A, A = vInts vs := ⟨_, rfl⟩
  have hAi : A.ids = [] := by rw [hA]; rfl
  obtain ⟨p0, hp0⟩ : ∃ p0, p0 = O.mem false [] [c.cells] := ⟨_, rfl⟩
  have hpr : p0.refs = [] := by rw [hp0]; rfl
  rw [← hA]
  have hfew := few2_spec (m1 c) vs (m1_ok hok) hvl
  rw [← hA] at hfew
  have hfew2 := DP.sub (.cons (m1_sub c) (.cons (.refl _) .nil)) hfew
  refine vc_cut (At [(1, A), (2, .ptr 0 1 0 0)] [p0]) (by simp -dsimp [At, hp0]) ?_
  try clear h
  rintro ⟨sl, hp, bs⟩ ⟨rfl, h⟩
  simp only [sls_cons, sls_one, sls_nil] at h
  refine vc_cut (fun st => FewCon c ∧ vs.length ≤ 20000 ∧ At [(1, A), (2, .ptr 0 1 0 0)] [p0, .res] st) ?_ ?_
  · simp -dsimp [h, hp0, hA, vInts]
    refine gcall_gen hfew2 (by simp -dsimp [h, hA, vInts]) (by simp -dsimp [h, hAi, hA, vInts]) ?_
    rintro r ⟨b, rfl, hb⟩
    cases b
    · simp -dsimp [h, hallmarklaw4_ModelHolds.rs]
    · have := hb rfl
      have hF := this.1.con c (by simp [m1])
      simp -dsimp [h, At, hA, hp0, hF, this.2, vInts]
  try clear h
  rintro ⟨sl, hp, bs⟩ ⟨hF, hvs, rfl, h⟩
  simp only [sls_cons, sls_one, sls_nil] at h
  refine vc_cut (At [(1, A), (2, .ptr 0 1 0 0), (5, .ptr 2 1 0 0)] (p0 :: .res :: (Rmk 2 rm0 ++ []))) ?_ ?_
  · simp -dsimp [h]
    refine ⟨_, Weak.room 2 (P := [p0, .res]) rfl, ?_⟩
    simp -dsimp [h, At]
    done
  try clear h
  rintro ⟨sl, hp, bs⟩ ⟨rfl, h⟩
  simp only [sls_cons, sls_one, sls_nil] at h
  obtain ⟨s, hs⟩ : ∃ s, s = (rm0.lCon c 40).lInts vs 40 := ⟨_, rfl⟩
  have l1 := rm0_le.lCon hF.conLe (room := 40) (by omega) (by omega)
  have l2 := l1.lInts (l := vs) (room := 40) (by omega) (by omega) (by omega)
  rw [← hs] at l2
  refine vc_cut (At [(1, A), (2, .ptr 0 1 0 0), (5, .ptr 2 1 0 0), (6, .ptr 13 1 0 0), (7, A)] (p0 :: .res :: (Rmk 2 s ++ [p0]))) ?_ ?_
  · simp -dsimp [h, hp0, hcl]
    refine gcallR2 (lay_Con rm0 c 0 hF.conLe rm0_le (by omega)) rfl ?_ ?_ (by simp) ?_
    · simp -dsimp [h, V.idsL, V.ids, addAll]
    · simp -dsimp [h, V.renL, V.ren, idx]
    · rintro r s' ⟨rfl, rfl⟩
      simp -dsimp [h, hp0, hcl]
      refine gcallR2 (IntsS _ vs 20004 (by omega) (by simpa using l1) (by omega)) rfl ?_ ?_ (by simp) ?_
      · simp -dsimp [h, V.idsL, V.ids, addAll, hAi]
      · simp -dsimp [h, V.renL, V.ren, idx, hA, vInts]
      · rintro r s' ⟨rfl, rfl⟩
        simp -dsimp [h, hp0, hcl, At, hA, hs]
        try rfl
  try clear h
  rintro ⟨sl, hp, bs⟩ ⟨rfl, h⟩
  simp only [sls_cons, sls_one, sls_nil] at h
  have k1 := holdsR_spec c vs hok hvl
  have k2 := holds_spec c vs hok hvl trivial
  obtain ⟨W, hW⟩ : ∃ W, W = holdsB c vs := ⟨_, rfl⟩
  rw [← hW, ← hA] at k1 k2
  have hM : (20000 : Nat) ≤ maxLen := by decide
  have hlen : ModLen (m1 c) := ⟨Nat.zero_le _, Nat.le_trans (show 1 ≤ 20000 by omega) hM, fun x hx => by
    obtain rfl : x = c := by simpa [m1] using hx
    exact ⟨Nat.le_trans hF.terms hM, Nat.le_trans hF.xs hM, Nat.le_trans hF.table hM, Nat.le_trans hF.rows hM, fun r hr => Nat.le_trans (hF.row r hr) hM⟩, Nat.zero_le _⟩
  have ksame := DP.sub (.cons (m1_sub c) (.cons (m1_sub c) .nil)) (sameR_self (m1 c) hlen)
  have kint := sameIntsL_self vs hvl
  rw [← hA] at kint
  refine vc_cut (At [(1, A), (2, .ptr 0 1 0 0), (5, .ptr 2 1 0 0), (6, .ptr 13 1 0 0), (7, A), (8, .bool W)] (p0 :: .res :: (Rmk 2 s ++ [p0]))) ?_ ?_
  · simp -dsimp [h, hp0, hcl]
    refine gcall (k1) (by simp -dsimp [h, hp0, hcl, hAi, At]) (by simp -dsimp [h, hp0, hcl, hAi, At]) ?_
    simp -dsimp [h, hp0, hcl, hAi, At]
  try clear h
  rintro ⟨sl, hp, bs⟩ ⟨rfl, h⟩
  simp only [sls_cons, sls_one, sls_nil] at h
  simp -dsimp [h, hp0, hcl]
  refine gcall (k2) (by simp -dsimp [h, hp0, hcl, hAi]) (by simp -dsimp [h, hp0, hcl, hAi]) ?_
  simp -dsimp [h, hp0, hcl, hAi]
  refine gcall (k2) (by simp -dsimp [h, hp0, hcl, hAi]) (by simp -dsimp [h, hp0, hcl, hAi]) ?_
  simp -dsimp [h, hp0, hcl, hAi]
  refine gcall (kint) (by simp -dsimp [h, hp0, hcl, hAi]) (by simp -dsimp [h, hp0, hcl, hAi]) ?_
  simp -dsimp [h, hp0, hcl, hAi]
  refine gcall_gen ksame (by simp -dsimp [h, hcl]) (by simp -dsimp [h, hcl]) ?_
  rintro r rfl
  simp -dsimp [h, hp0, hcl]
  refine gcallR2 (Hold_spec s l2.ok) rfl ?_ ?_ (by simp) ?_
  · simp -dsimp [h, V.idsL, V.ids, addAll, hAi]
  · simp -dsimp [h, V.renL, V.ren, idx]
  · rintro r s' ⟨rfl, rfl⟩
    simp -dsimp [h, hallmarklaw4_ModelHolds.rs]
end Go.Abs.G
