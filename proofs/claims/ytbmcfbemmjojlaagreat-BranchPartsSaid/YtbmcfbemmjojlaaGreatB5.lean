import Derived.Test.YtbmcfbemmjojlaaGreatB4
set_option linter.all false
namespace Go.Abs.G
open Go.Proofs
set_option linter.unusedVariables false
set_option linter.unusedSimpArgs false

theorem any_greatB_bad {l : List Int} {i : Nat} (h : i < l.length) (hb : withinB l[i] 1000000000 = false) : greatB l = true := any_of_at h (by rw [hb]; rfl)

theorem conR_spec (c : Con) (n : Int) (hn : 0 < n) (hc : okCon c) : Pf Tryz.prog hallmarkref4_Con.id [.agg c.cells, V.i n] (V.i (conB c n)) := by
  have hM : (maxLen : Int) ≤ 9223372036854775807 := by decide
  obtain ⟨_, _, ht, _, _, _, _, hx, hb, hr, hrr⟩ := hc
  replace ht := ht.1
  replace hx := hx.1
  replace hb := hb.1
  rw [← conR_eq c n hn]
  refine DC.of hallmarkref4_Con.ok (by simp) ?_
  unfold hallmarkref4_Con.ir
  refine vc_cut (At [(1, V.i n), (2, .ptr 0 1 0 0)] [.mem false [] [c.cells]]) (by simp -dsimp [At, Con.cells, vTerms, vInts, vIntss]) ?_
  try clear h
  rintro ⟨sl, hp, bs⟩ ⟨rfl, h⟩
  simp only [sls_cons, sls_one, sls_nil] at h
  -- the kind
  obtain ⟨A, hA⟩ : ∃ A, A = (decide (c.kind < 1) || decide (9 < c.kind) || ((decide (c.kind = 1) || decide (c.kind = 9)) && (decide (c.op < 1) || decide (3 < c.op)))) := ⟨_, rfl⟩
  refine vc_cut (fun st => A = false ∧ At [(1, V.i n), (2, .ptr 0 1 0 0)] [.mem false [] [c.cells]] st) ?_ ?_
  · refine vc_cut (At [(1, V.i n), (2, .ptr 0 1 0 0), (37, .bool A)] [.mem false [] [c.cells]]) ?_ ?_
    · by_cases k1 : c.kind < 1
      · simp -dsimp [h, At, k1, hA, Con.cells, vTerms, vInts, vIntss]
      · by_cases k9 : 9 < c.kind
        · simp -dsimp [h, At, k1, k9, hA, Con.cells, vTerms, vInts, vIntss]
        · by_cases e1 : c.kind = 1
          · by_cases o1 : c.op < 1
            · simp -dsimp [h, At, e1, o1, hA, Con.cells, vTerms, vInts, vIntss]
            · simp -dsimp [h, At, e1, o1, hA, Con.cells, vTerms, vInts, vIntss]
          · by_cases e9 : c.kind = 9
            · by_cases o1 : c.op < 1
              · simp -dsimp [h, At, e9, o1, hA, Con.cells, vTerms, vInts, vIntss]
              · simp -dsimp [h, At, e9, o1, hA, Con.cells, vTerms, vInts, vIntss]
            · simp -dsimp [h, At, e1, e9, k1, k9, hA, Con.cells, vTerms, vInts, vIntss]
    try clear h
    rintro ⟨sl, hp, bs⟩ ⟨rfl, h⟩
    simp only [sls_cons, sls_one, sls_nil] at h
    cases hAA : A
    · rw [hAA] at h
      simp -dsimp [h, At]
    · rw [hAA] at h
      have hC : conR c n = 43 := by unfold conR; rw [← hA, hAA]; rfl
      simp -dsimp [h, hC, hallmarkref4_Con.rs]
  try clear h
  rintro ⟨sl, hp, bs⟩ ⟨hAA, rfl, h⟩
  simp only [sls_cons, sls_one, sls_nil] at h
  unfold conR
  rw [← hA, hAA, if_neg (by simp)]
  -- fields that the kind hasn't
  refine vc_cut (fun st => foreignB c = false ∧ At [(1, V.i n), (2, .ptr 0 1 0 0)] [.mem false [] [c.cells]] st) ?_ ?_
  · simp -dsimp [h, Con.cells, vTerms, vInts, vIntss]
    refine gcall (foreignR_spec c) (by simp -dsimp [h, Con.cells, vTerms, vInts, vIntss]) (by simp -dsimp [h, Con.cells, vTerms, vInts, vIntss]) ?_
    cases a : foreignB c
    · simp -dsimp [h, At, Con.cells, vTerms, vInts, vIntss]
    · simp -dsimp [h, hallmarkref4_Con.rs]
  try clear h
  rintro ⟨sl, hp, bs⟩ ⟨hB, rfl, h⟩
  simp only [sls_cons, sls_one, sls_nil] at h
  rw [if_neg (by simp [hB])]
  refine vc_cut (At [(1, V.i n), (2, .ptr 0 1 0 0), (5, .bool (foS c))] [.mem false [] [c.cells]]) ?_ ?_
  · by_cases k : c.kind = 1
    · simp -dsimp [h, At, k, foS, Con.cells, vTerms, vInts, vIntss]
    · simp -dsimp [h, At, k, foS, Bool.beq_eq_decide_eq, Con.cells, vTerms, vInts, vIntss]
  try clear h
  rintro ⟨sl, hp, bs⟩ ⟨rfl, h⟩
  simp only [sls_cons, sls_one, sls_nil] at h
  -- too many
  obtain ⟨M1, hM1⟩ : ∃ M1, M1 = (foS c && manyB c.terms.length) := ⟨_, rfl⟩
  obtain ⟨M2, hM2⟩ : ∃ M2, M2 = (M1 || (listsB c.kind && manyB c.xs.length)) := ⟨_, rfl⟩
  obtain ⟨M3, hM3⟩ : ∃ M3, M3 = (M2 || (decide (c.kind = 4) && manyB c.table.length)) := ⟨_, rfl⟩
  obtain ⟨M4, hM4⟩ : ∃ M4, M4 = (M3 || (decide (c.kind = 8) && !rowsR c)) := ⟨_, rfl⟩
  have hMM : (((decide (c.kind = 1) || decide (c.kind = 7)) && manyB c.terms.length) || (listsB c.kind && manyB c.xs.length) || (decide (c.kind = 4) && manyB c.table.length) || (decide (c.kind = 8) && !rowsR c)) = M4 := by rw [hM4, hM3, hM2, hM1]; rfl
  rw [hMM]
  refine vc_cut (fun st => M4 = false ∧ At [(1, V.i n), (2, .ptr 0 1 0 0)] [.mem false [] [c.cells]] st) ?_ ?_
  · refine vc_cut (At [(1, V.i n), (2, .ptr 0 1 0 0), (86, .bool M4)] [.mem false [] [c.cells]]) ?_ ?_
    · refine vc_reg_of (vcIts_cut 8 (At [(1, V.i n), (2, .ptr 0 1 0 0), (55, .bool M1)] [.mem false [] [c.cells]]) ?_ ?_)
      · obtain ⟨S, hS⟩ : ∃ S, S = foS c := ⟨_, rfl⟩
        rw [← hS] at h hM1
        cases S
        · simp -dsimp [h, At, hM1]
        · simp -dsimp [h, Con.cells, vTerms, vInts, vIntss]
          refine gcall (manyR_spec c.terms.length) (by simp -dsimp [h]) (by simp -dsimp [h]) ?_
          simp -dsimp [h, At, hM1, Con.cells, vTerms, vInts, vIntss]
      try clear h
      rintro ⟨sl, hp, bs⟩ ⟨rfl, h⟩
      simp only [sls_cons, sls_one, sls_nil] at h
      refine vcIts_cut 11 (At [(1, V.i n), (2, .ptr 0 1 0 0), (66, .bool M2)] [.mem false [] [c.cells]]) ?_ ?_
      · cases M1
        · simp -dsimp [h, Con.cells, vTerms, vInts, vIntss]
          refine gcall (listsR_spec c.kind) (by simp -dsimp [h]) (by simp -dsimp [h]) ?_
          cases b : listsB c.kind
          · simp -dsimp [h, At, hM2, b, Con.cells, vTerms, vInts, vIntss]
          · simp -dsimp [h, b, Con.cells, vTerms, vInts, vIntss]
            refine gcall (manyR_spec c.xs.length) (by simp -dsimp [h]) (by simp -dsimp [h]) ?_
            simp -dsimp [h, At, hM2, b, Con.cells, vTerms, vInts, vIntss]
        · simp -dsimp [h, At, hM2]
      try clear h
      rintro ⟨sl, hp, bs⟩ ⟨rfl, h⟩
      simp only [sls_cons, sls_one, sls_nil] at h
      refine vcIts_cut 11 (At [(1, V.i n), (2, .ptr 0 1 0 0), (77, .bool M3)] [.mem false [] [c.cells]]) ?_ ?_
      · cases M2
        · by_cases k4 : c.kind = 4
          · simp -dsimp [h, k4, Con.cells, vTerms, vInts, vIntss]
            refine gcall (manyR_spec c.table.length) (by simp -dsimp [h]) (by simp -dsimp [h]) ?_
            simp -dsimp [h, At, hM3, k4, Con.cells, vTerms, vInts, vIntss]
          · simp -dsimp [h, At, hM3, k4, Con.cells, vTerms, vInts, vIntss]
        · simp -dsimp [h, At, hM3]
      try clear h
      rintro ⟨sl, hp, bs⟩ ⟨rfl, h⟩
      simp only [sls_cons, sls_one, sls_nil] at h
      cases M3
      · by_cases k8 : c.kind = 8
        · have hcc : c.cells = [V.i 8, V.i c.op, vTerms c.terms, V.i c.k, V.i c.v, V.i c.x, V.i c.y, vInts c.xs, vInts c.table, vIntss c.rows] := by rw [← k8]; rfl
          simp -dsimp [h, Con.cells, k8, vTerms, vInts, vIntss]
          refine gcall (rowsR_spec c hr) (by simp -dsimp [h, Con.cells, k8, vTerms, vInts, vIntss]) (by simp -dsimp [h, Con.cells, vTerms, vInts, vIntss]) ?_
          simp -dsimp [h, At, hM4, k8, Con.cells, vTerms, vInts, vIntss]
        · simp -dsimp [h, At, hM4, k8, Con.cells, vTerms, vInts, vIntss]
      · simp -dsimp [h, At, hM4]
    try clear h
    rintro ⟨sl, hp, bs⟩ ⟨rfl, h⟩
    simp only [sls_cons, sls_one, sls_nil] at h
    cases hAA : M4
    · rw [hAA] at h
      simp -dsimp [h, At]
    · rw [hAA] at h
      simp -dsimp [h, hallmarkref4_Con.rs]
  try clear h
  rintro ⟨sl, hp, bs⟩ ⟨hM4', rfl, h⟩
  simp only [sls_cons, sls_one, sls_nil] at h
  rw [hM4', if_neg (by simp)]
  refine vc_cut (At [(1, V.i n), (2, .ptr 0 1 0 0), (6, V.i (termsR c.terms n))] [.mem false [] [c.cells]]) ?_ ?_
  · simp -dsimp [h, Con.cells, vTerms, vInts, vIntss]
    refine gcall (termsR_spec c.terms n ht) (by simp -dsimp [h, vTerms]) (by simp -dsimp [h, vTerms]) ?_
    simp -dsimp [h, At, Con.cells, vTerms, vInts, vIntss]
  try clear h
  rintro ⟨sl, hp, bs⟩ ⟨rfl, h⟩
  simp only [sls_cons, sls_one, sls_nil] at h
  obtain ⟨T, hT⟩ : ∃ T, T = termsR c.terms n := ⟨_, rfl⟩
  rw [← hT] at h ⊢
  refine vc_cut (fun st => (!placesR c n || decide (T = 44)) = false ∧ At [(2, .ptr 0 1 0 0), (6, V.i T)] [.mem false [] [c.cells]] st) ?_ ?_
  · simp -dsimp [h, Con.cells, vTerms, vInts, vIntss]
    refine gcall (placesR_spec c n hx) (by simp -dsimp [h, Con.cells, vTerms, vInts, vIntss]) (by simp -dsimp [h, Con.cells, vTerms, vInts, vIntss]) ?_
    cases a : placesR c n
    · simp -dsimp [h, hallmarkref4_Con.rs]
    · by_cases e : T = 44
      · simp -dsimp [h, e, hallmarkref4_Con.rs]
      · simp -dsimp [h, At, e, Con.cells, vTerms, vInts, vIntss]
  try clear h
  rintro ⟨sl, hp, bs⟩ ⟨hP, rfl, h⟩
  simp only [sls_cons, sls_one, sls_nil] at h
  rw [hP, if_neg (by simp)]
  refine vc_cut (fun st => T = 0 ∧ At [(2, .ptr 0 1 0 0)] [.mem false [] [c.cells]] st) ?_ ?_
  · by_cases e : T = 0
    · simp -dsimp [h, At, e]
    · simp -dsimp [h, e, hallmarkref4_Con.rs]
  try clear h
  rintro ⟨sl, hp, bs⟩ ⟨hT0, rfl, h⟩
  simp only [sls_cons, sls_one, sls_nil] at h
  rw [if_neg (by simp [hT0])]
  refine vc_cut (fun st => (!withinB c.k 1000000000 || !withinB c.v 1000000000) = false ∧ At [(2, .ptr 0 1 0 0)] [.mem false [] [c.cells]] st) ?_ ?_
  · simp -dsimp [h, Con.cells, vTerms, vInts, vIntss]
    refine gcall (numberR_spec c.k) (by simp -dsimp [h]) (by simp -dsimp [h]) ?_
    cases a : withinB c.k 1000000000
    · simp -dsimp [h, hallmarkref4_Con.rs]
    · simp -dsimp [h]
      refine gcall (numberR_spec c.v) (by simp -dsimp [h]) (by simp -dsimp [h]) ?_
      cases b : withinB c.v 1000000000
      · simp -dsimp [h, hallmarkref4_Con.rs]
      · simp -dsimp [h, At, Con.cells, vTerms, vInts, vIntss]
  try clear h
  rintro ⟨sl, hp, bs⟩ ⟨hK, rfl, h⟩
  simp only [sls_cons, sls_one, sls_nil] at h
  rw [hK, if_neg (by simp)]
  -- numbers of rows
  have hM9 := hM
  refine vc_cut (fun st => c.rows.any greatB = false ∧ At [(2, .ptr 0 1 0 0)] [.mem false [] [c.cells]] st) ?_ ?_
  · refine vc_cut (At [(2, .ptr 0 1 0 0), (7, V.i 0)] [.mem false [] [c.cells]]) (by simp -dsimp [h, At]) ?_
    try clear h
    rintro ⟨sl, hp, bs⟩ ⟨rfl, h⟩
    simp only [sls_cons, sls_one, sls_nil] at h
    refine vc_block_of (vc_upto 1 (by simp) c.rows.length (fun i st => (c.rows.take i).any greatB = false ∧ At [(2, .ptr 0 1 0 0), (7, V.i i)] [.mem false [] [c.cells]] st) ⟨rfl, rfl, by simpa using h⟩ ?_)
    clear h
    rintro i ⟨sl, hp, bs⟩ hi ⟨hx, rfl, h⟩
    simp only [sls_cons, sls_one] at h
    unfold hallmarkref4_Con.b0
    by_cases hil : i < c.rows.length
    · have hw : IntKind.i64.wrap ((i : Int) + 1) = ((i + 1 : Nat) : Int) := by rw [wrap64] <;> omega
      refine vc_cut (At [(2, .ptr 0 1 0 0), (7, V.i i)] [.mem false [] [c.cells]]) (by simp -dsimp [h, At, hil, Con.cells, vTerms, vInts, vIntss]) ?_
      try clear h
      rintro ⟨sl, hp, bs⟩ ⟨rfl, h⟩
      simp only [sls_cons, sls_one, sls_nil] at h
      obtain ⟨t, ht'⟩ : ∃ t, t = c.rows[i] := ⟨_, rfl⟩
      have hlt : t.length ≤ maxLen := by rw [ht']; exact (hrr _ (List.getElem_mem hil)).1
      refine vc_cut (fun st => greatB t = false ∧ At [(2, .ptr 0 1 0 0), (7, V.i i)] [.mem false [] [c.cells]] st) ?_ ?_
      · refine vc_block_of ?_
        refine vc_cut (At [(2, .ptr 0 1 0 0), (7, V.i i), (8, V.i 0)] [.mem false [] [c.cells]]) (by simp -dsimp [h, At]) ?_
        try clear h
        rintro ⟨sl, hp, bs⟩ ⟨rfl, h⟩
        simp only [sls_cons, sls_one, sls_nil] at h
        refine vc_block_of (vc_upto 1 (by simp) t.length (fun j st => greatB (t.take j) = false ∧ At [(2, .ptr 0 1 0 0), (7, V.i i), (8, V.i j)] [.mem false [] [c.cells]] st) ⟨rfl, rfl, by simpa using h⟩ ?_)
        clear h
        rintro j ⟨sl, hp, bs⟩ hj ⟨hg, rfl, h⟩
        simp only [sls_cons, sls_one] at h
        unfold hallmarkref4_Con.b1
        by_cases hjl : j < t.length
        · have hw : IntKind.i64.wrap ((j : Int) + 1) = ((j + 1 : Nat) : Int) := by rw [wrap64] <;> omega
          refine vc_cut (At [(2, .ptr 0 1 0 0), (7, V.i i), (8, V.i j)] [.mem false [] [c.cells]]) (by simp -dsimp [h, At, hil, hjl, ← ht', Con.cells, vTerms, vInts, vIntss]) ?_
          try clear h
          rintro ⟨sl, hp, bs⟩ ⟨rfl, h⟩
          simp only [sls_cons, sls_one, sls_nil] at h
          refine vc_cut (fun st => withinB t[j] 1000000000 = true ∧ At [(2, .ptr 0 1 0 0), (7, V.i i), (8, V.i j)] [.mem false [] [c.cells]] st) ?_ ?_
          · refine vc_block_of ?_
            simp -dsimp [h, hil, hjl, ← ht', Con.cells, vTerms, vInts, vIntss]
            refine gcall (numberR_spec t[j]) (by simp -dsimp [h]) (by simp -dsimp [h]) ?_
            cases a : withinB t[j] 1000000000
            · have hbad : c.rows.any greatB = true := any_of_at hil (by rw [← ht']; exact any_greatB_bad hjl a)
              simp -dsimp [h, hbad, hallmarkref4_Con.rs]
            · simp -dsimp [h, At, Con.cells, vTerms, vInts, vIntss]
          try clear h
          rintro ⟨sl, hp, bs⟩ ⟨hb, rfl, h⟩
          simp only [sls_cons, sls_one, sls_nil] at h
          have hx2 : greatB (t.take (j + 1)) = false := by
            unfold greatB at hg ⊢
            rw [anyTake1 hjl, hg, hb]; rfl
          simp -dsimp [h, At, hw, hjl, hx2, Con.cells, vTerms, vInts, vIntss]
        · have hjl' : j = t.length := by omega
          subst hjl'
          rw [List.take_length] at hg
          simp -dsimp [h, At, hg, hil, ← ht', Con.cells, vTerms, vInts, vIntss]
      try clear h
      rintro ⟨sl, hp, bs⟩ ⟨hb, rfl, h⟩
      simp only [sls_cons, sls_one, sls_nil] at h
      have hx2 : (c.rows.take (i + 1)).any greatB = false := by
        rw [anyTake1 hil, hx, ← ht', hb]; rfl
      rw [hx2]
      simp -dsimp [h, At, hw, hil, Con.cells, vTerms, vInts, vIntss]
    · have hil' : i = c.rows.length := by omega
      subst hil'
      rw [List.take_length] at hx
      rw [hx]
      simp -dsimp [h, At, Con.cells, vTerms, vInts, vIntss]
  try clear h
  rintro ⟨sl, hp, bs⟩ ⟨hR, rfl, h⟩
  simp only [sls_cons, sls_one, sls_nil] at h
  rw [hR, if_neg (by simp)]
  refine vc_cut (fun st => greatB c.table = false ∧ At [] [.mem false [] [c.cells]] st) ?_ ?_
  · refine vc_cut (At [(2, .ptr 0 1 0 0), (9, V.i 0)] [.mem false [] [c.cells]]) (by simp -dsimp [h, At]) ?_
    try clear h
    rintro ⟨sl, hp, bs⟩ ⟨rfl, h⟩
    simp only [sls_cons, sls_one, sls_nil] at h
    refine vc_block_of (vc_upto 1 (by simp) c.table.length (fun j st => greatB (c.table.take j) = false ∧ At [(2, .ptr 0 1 0 0), (9, V.i j)] [.mem false [] [c.cells]] st) ⟨rfl, rfl, by simpa using h⟩ ?_)
    clear h
    rintro j ⟨sl, hp, bs⟩ hj ⟨hg, rfl, h⟩
    simp only [sls_cons, sls_one] at h
    unfold hallmarkref4_Con.b2
    by_cases hjl : j < c.table.length
    · have hw : IntKind.i64.wrap ((j : Int) + 1) = ((j + 1 : Nat) : Int) := by rw [wrap64] <;> omega
      refine vc_cut (At [(2, .ptr 0 1 0 0), (9, V.i j)] [.mem false [] [c.cells]]) (by simp -dsimp [h, At, hjl, Con.cells, vTerms, vInts, vIntss]) ?_
      try clear h
      rintro ⟨sl, hp, bs⟩ ⟨rfl, h⟩
      simp only [sls_cons, sls_one, sls_nil] at h
      refine vc_cut (fun st => withinB c.table[j] 1000000000 = true ∧ At [(2, .ptr 0 1 0 0), (9, V.i j)] [.mem false [] [c.cells]] st) ?_ ?_
      · refine vc_block_of ?_
        simp -dsimp [h, hjl, Con.cells, vTerms, vInts, vIntss]
        refine gcall (numberR_spec c.table[j]) (by simp -dsimp [h]) (by simp -dsimp [h]) ?_
        cases a : withinB c.table[j] 1000000000
        · have hbad : greatB c.table = true := any_greatB_bad hjl a
          simp -dsimp [h, hbad, hallmarkref4_Con.rs]
        · simp -dsimp [h, At, Con.cells, vTerms, vInts, vIntss]
      try clear h
      rintro ⟨sl, hp, bs⟩ ⟨hb, rfl, h⟩
      simp only [sls_cons, sls_one, sls_nil] at h
      have hx2 : greatB (c.table.take (j + 1)) = false := by
        unfold greatB at hg ⊢
        rw [anyTake1 hjl, hg, hb]; rfl
      simp -dsimp [h, At, hw, hjl, hx2, Con.cells, vTerms, vInts, vIntss]
    · have hjl' : j = c.table.length := by omega
      subst hjl'
      rw [List.take_length] at hg
      simp -dsimp [h, At, hg, Con.cells, vTerms, vInts, vIntss]
  try clear h
  rintro ⟨sl, hp, bs⟩ ⟨hR, rfl, h⟩
  simp -dsimp [hallmarkref4_Con.rs, hR]
end Go.Abs.G


namespace Go.Abs.G
open Go.Proofs
set_option linter.unusedVariables false
set_option linter.unusedSimpArgs false

def bt (s : ByteArray) (i : Nat) : Nat := (s.data.toList.getD i 0).toNat
theorem bt_lt (s : ByteArray) (i : Nat) : bt s i < 256 := UInt8.toNat_lt _
theorem byteAt_bt (s : ByteArray) (i : Nat) : byteAt s i = (bt s i : Int) := rfl
theorem get_bt (s : ByteArray) (i : Nat) (h : i < s.size) : (s.get! i).toNat = bt s i := by
  have h' : i < s.data.size := h
  show (s.data[i]!).toNat = (s.data.toList.getD i 0).toNat
  rw [getElem!_pos s.data i h', List.getD_eq_getElem?_getD, List.getElem?_eq_getElem (by simpa using h')]
  simp
def okByte (s : ByteArray) (i : Nat) : Bool := letterB (bt s i) || (decide (i ≠ 0) && decide (48 ≤ bt s i) && decide (bt s i ≤ 57))
theorem decode_small (s : ByteArray) (i : Nat) (h : i < s.size) (hb : bt s i < 128) : Utf8.decode s i = (bt s i, 1) := by
  rw [← get_bt s i h] at hb ⊢
  unfold Utf8.decode
  simp only [Nat.add_zero]
  rw [if_pos hb]
theorem decode_great (s : ByteArray) (i : Nat) (h : i < s.size) (hb : ¬ bt s i < 128) : 128 ≤ (Utf8.decode s i).1 := by
  rw [← get_bt s i h] at hb
  unfold Utf8.decode
  simp only [Nat.add_zero]
  rw [if_neg hb]
  repeat' split
  all_goals (first | (unfold Utf8.runeError; omega) | skip)
  all_goals (rename_i hh; simp at hh; simp; try omega)
theorem letter_great {r : Nat} (h : 128 ≤ r) : letterB r = false := by simp [letterB]; omega
theorem nameFrom_iff (s : ByteArray) : ∀ (f pos : Nat), s.size < f + pos → (nameFrom s f pos = true ↔ ∀ j, pos ≤ j → j < s.size → okByte s j = true) := by
  intro f
  induction f with
  | zero => intro pos h; exact ⟨fun _ j h1 h2 => by omega, fun _ => rfl⟩
  | succ f ih =>
    intro pos h
    by_cases hp : pos < s.size
    · rw [nameFrom_step s f pos hp]
      by_cases hb : bt s pos < 128
      · rw [decode_small s pos hp hb]
        simp only
        have hok : (!letterB (bt s pos) && (decide (pos = 0) || decide (bt s pos < 48) || decide (57 < bt s pos))) = !okByte s pos := by
          unfold okByte
          cases letterB (bt s pos)
          · rw [Bool.eq_iff_iff]; simp; try omega
          · rfl
        rw [hok]
        cases ho : okByte s pos
        · simp
          exact ⟨pos, Nat.le_refl _, hp, ho⟩
        · simp
          rw [ih (pos + 1) (by omega)]
          constructor
          · intro hh j h1 h2
            by_cases e : j = pos
            · rw [e]; exact ho
            · exact hh j (by omega) h2
          · intro hh j h1 h2; exact hh j (by omega) h2
      · have hg := decode_great s pos hp hb
        have ho : okByte s pos = false := by
          unfold okByte; rw [letter_great (by omega)]; simp; omega
        have : (!letterB (Utf8.decode s pos).1 && (decide (pos = 0) || decide ((Utf8.decode s pos).1 < 48) || decide (57 < (Utf8.decode s pos).1))) = true := by
          rw [letter_great hg]; simp; omega
        rw [if_pos this]
        simp
        exact ⟨pos, Nat.le_refl _, hp, ho⟩
    · rw [nameFrom_end s _ pos hp]
      exact ⟨fun _ j h1 h2 => by omega, fun _ => rfl⟩
theorem nameB_iff (s : ByteArray) : nameB s = true ↔ 1 ≤ s.size ∧ s.size ≤ 16 ∧ ∀ j, j < s.size → okByte s j = true := by
  unfold nameB
  rw [Bool.and_eq_true, Bool.and_eq_true, decide_eq_true_eq, decide_eq_true_eq, nameFrom_iff s (s.size + 1) 0 (by omega)]
  constructor
  · rintro ⟨⟨a, b⟩, c⟩; exact ⟨b, c, fun j hj => a j (by omega) hj⟩
  · rintro ⟨a, b, c⟩; exact ⟨⟨fun j _ hj => c j hj, a⟩, b⟩

theorem nameR_spec (s : ByteArray) (hs : s.size ≤ maxLen) : Pf Tryz.prog hallmarkref4_Name.id [.str s] (.bool (nameB s)) := by
  have hM : (maxLen : Int) ≤ 9223372036854775807 := by decide
  have hno : ¬ (1 ≤ s.size ∧ s.size ≤ 16 ∧ ∀ j, j < s.size → okByte s j = true) → nameB s = false := fun h => by
    rw [← nameB_iff] at h; simpa using h
  refine DC.of hallmarkref4_Name.ok (by simp) ?_
  unfold hallmarkref4_Name.ir
  refine vc_cut (At [(0, .str s)] []) (by simp -dsimp [At]) ?_
  try clear h
  rintro ⟨sl, hp, bs⟩ ⟨rfl, h⟩
  simp only [sls_cons, sls_one, sls_nil] at h
  refine vc_cut (fun st => (1 ≤ s.size ∧ s.size ≤ 16 ∧ okByte s 0 = true) ∧ At [(0, .str s)] [] st) ?_ ?_
  · by_cases h1 : 1 ≤ s.size
    · have h1' : ¬ (s.size : Int) < 1 := by omega
      by_cases h2 : 16 < s.size
      · have h2' : (16 : Int) < s.size := by omega
        simp -dsimp [h, h1', h2', hallmarkref4_Name.rs, hno (by omega)]
      · have h2' : ¬ (16 : Int) < s.size := by omega
        have h3 : 0 < s.size := by omega
        simp -dsimp [h, h1', h2', h3]
        refine gcall (letterR_spec (bt s 0) (bt_lt s 0)) (by simp -dsimp [h, byteAt_bt]) (by simp -dsimp [h]) ?_
        cases a : letterB (bt s 0)
        · have hk : nameB s = false := hno fun hh => by
            have := hh.2.2 0 (by omega)
            simp [okByte, a] at this
          simp -dsimp [h, hk, hallmarkref4_Name.rs]
        · have hk : okByte s 0 = true := by simp [okByte, a]
          simp -dsimp [h, At, h1, hk]
          omega
    · have h1' : (s.size : Int) < 1 := by omega
      simp -dsimp [h, h1', hallmarkref4_Name.rs, hno (by omega)]
  try clear h
  rintro ⟨sl, hp, bs⟩ ⟨⟨g1, g2, g3⟩, rfl, h⟩
  simp only [sls_cons, sls_one, sls_nil] at h
  refine vc_cut (fun st => nameB s = true ∧ At [] [] st) ?_ ?_
  · refine vc_cut (At [(0, .str s), (3, V.i 1)] []) (by simp -dsimp [h, At]) ?_
    try clear h
    rintro ⟨sl, hp, bs⟩ ⟨rfl, h⟩
    simp only [sls_cons, sls_one, sls_nil] at h
    refine vc_block_of (vc_upto 0 (by simp) (s.size - 1) (fun i st => (∀ j, j < i + 1 → okByte s j = true) ∧ At [(0, .str s), (3, V.i (i + 1))] [] st) ⟨fun j hj => by rw [show j = 0 by omega]; exact g3, rfl, by simpa using h⟩ ?_)
    clear h
    rintro i ⟨sl, hp, bs⟩ hi ⟨hx, rfl, h⟩
    simp only [sls_cons, sls_one] at h
    unfold hallmarkref4_Name.b0
    by_cases hil : i + 1 < s.size
    · have hw : IntKind.i64.wrap ((i : Int) + 1 + 1) = (i : Int) + 1 + 1 := by rw [wrap64] <;> omega
      have hil' : (i : Int) + 1 < s.size := by omega
      have hn0 : (0 : Int) ≤ (i : Int) + 1 := by omega
      have htn : ((i : Int) + 1).toNat = i + 1 := by omega
      refine vc_cut (At [(0, .str s), (3, V.i (i + 1))] []) (by simp -dsimp [h, At, hil']) ?_
      try clear h
      rintro ⟨sl, hp, bs⟩ ⟨rfl, h⟩
      simp only [sls_cons, sls_one, sls_nil] at h
      refine vc_cut (fun st => okByte s (i + 1) = true ∧ At [(0, .str s), (3, V.i (i + 1))] [] st) ?_ ?_
      · refine vc_block_of ?_
        have hbad : okByte s (i + 1) = false → nameB s = false := fun e => hno fun hh => by
          rw [hh.2.2 _ hil] at e; cases e
        simp -dsimp [h, hil', hn0]
        refine gcall (letterR_spec (bt s (i + 1)) (bt_lt s _)) (by simp -dsimp [h, byteAt_bt, htn]) (by simp -dsimp [h]) ?_
        cases a : letterB (bt s (i + 1))
        · by_cases b1 : bt s (i + 1) < 48
          · have b1' : (bt s (i + 1) : Int) < 48 := by omega
            have ho : okByte s (i + 1) = false := by simp [okByte, a]; omega
            simp -dsimp [h, hil', hn0, htn, byteAt_bt, b1', hbad ho, hallmarkref4_Name.rs]
          · have b1' : ¬ (bt s (i + 1) : Int) < 48 := by omega
            by_cases b2 : 57 < bt s (i + 1)
            · have b2' : (57 : Int) < bt s (i + 1) := by omega
              have ho : okByte s (i + 1) = false := by simp [okByte, a]; omega
              simp -dsimp [h, hil', hn0, htn, byteAt_bt, b1', b2', hbad ho, hallmarkref4_Name.rs]
            · have b2' : ¬ (57 : Int) < bt s (i + 1) := by omega
              have ho : okByte s (i + 1) = true := by simp [okByte, a]; omega
              simp -dsimp [h, At, hil', hn0, htn, byteAt_bt, b1', b2', ho]
        · have ho : okByte s (i + 1) = true := by simp [okByte, a]
          simp -dsimp [h, At, ho]
      try clear h
      rintro ⟨sl, hp, bs⟩ ⟨hb, rfl, h⟩
      simp only [sls_cons, sls_one, sls_nil] at h
      simp -dsimp [h, At, hw]
      refine ⟨by omega, fun j hj => ?_⟩
      by_cases e : j = i + 1
      · rw [e]; exact hb
      · exact hx j (by omega)
    · have hil' : ¬ (i : Int) + 1 < s.size := by omega
      have hk : nameB s = true := (nameB_iff s).2 ⟨g1, g2, fun j hj => hx j (by omega)⟩
      simp -dsimp [h, At, hil', hk]
  try clear h
  rintro ⟨sl, hp, bs⟩ ⟨hb, rfl, h⟩
  simp -dsimp [hb, hallmarkref4_Name.rs]
end Go.Abs.G


namespace Go.Abs.G
open Go.Proofs
set_option linter.unusedVariables false
set_option linter.unusedSimpArgs false

def varsB (l : List Var) : Int × Int :=
  if l.length = 0 ∨ 32 < l.length then (0, 40)
  else match firstBad (varB l) 0 l with
    | some (i, e) => ((i : Int), e)
    | none => (0, 0)

theorem firstBad_ne {α : Type} (f : Nat → α → Int) : ∀ (l : List α) (k i : Nat) (e : Int), firstBad f k l = some (i, e) → e ≠ 0 := by
  intro l
  induction l with
  | nil => intro k i e h; cases h
  | cons x l ih =>
    intro k i e h
    unfold firstBad at h
    split at h
    · exact ih _ _ _ h
    · rename_i h0; cases h; exact h0

theorem varsR_spec (l : List Var) (hl : l.length ≤ maxLen) (hv : ∀ v ∈ l, okVar v) : Pf Tryz.prog hallmarkref4_vars.id [vVars l] (.tup [V.i (varsB l).1, V.i (varsB l).2]) := by
  have hM : (maxLen : Int) ≤ 9223372036854775807 := by decide
  refine DC.of hallmarkref4_vars.ok (by simp) ?_
  unfold hallmarkref4_vars.ir
  refine vc_cut (At [(0, vVars l)] []) (by simp -dsimp [At, vVars]) ?_
  try clear h
  rintro ⟨sl, hp, bs⟩ ⟨rfl, h⟩
  simp only [sls_cons, sls_one, sls_nil] at h
  refine vc_cut (fun st => ¬ (l.length = 0 ∨ 32 < l.length) ∧ At [(0, vVars l)] [] st) ?_ ?_
  · by_cases l0 : l.length = 0
    · have l0' : (l.length : Int) < 1 := by omega
      have hB : varsB l = (0, 40) := by unfold varsB; rw [if_pos (.inl l0)]
      simp -dsimp [h, l0', vVars, hallmarkref4_vars.rs, hB]
    · have l0' : ¬ (l.length : Int) < 1 := by omega
      by_cases l1 : 32 < l.length
      · have l1' : (32 : Int) < l.length := by omega
        have hB : varsB l = (0, 40) := by unfold varsB; rw [if_pos (.inr l1)]
        simp -dsimp [h, l0', l1', vVars, hallmarkref4_vars.rs, hB]
      · have l1' : ¬ (32 : Int) < l.length := by omega
        simp -dsimp [h, At, l0', l1', l0, l1, vVars]
        try omega
  try clear h
  rintro ⟨sl, hp, bs⟩ ⟨hn, rfl, h⟩
  simp only [sls_cons, sls_one, sls_nil] at h
  have hB : varsB l = match firstBad (varB l) 0 l with | some (i, e) => ((i : Int), e) | none => (0, 0) := by unfold varsB; rw [if_neg hn]
  refine vc_cut (fun st => firstBad (varB l) 0 l = none ∧ At [] [] st) ?_ ?_
  · refine vc_cut (At [(0, vVars l), (4, V.i 0)] []) (by simp -dsimp [h, At, vVars]) ?_
    try clear h
    rintro ⟨sl, hp, bs⟩ ⟨rfl, h⟩
    simp only [sls_cons, sls_one, sls_nil] at h
    refine vc_block_of (vc_upto 0 (by simp) l.length (fun i st => firstBad (varB l) 0 l = firstBad (varB l) i (l.drop i) ∧ At [(0, vVars l), (4, V.i i)] [] st) ⟨rfl, rfl, by simpa using h⟩ ?_)
    clear h
    rintro i ⟨sl, hp, bs⟩ hi ⟨hx, rfl, h⟩
    simp only [sls_cons, sls_one] at h
    unfold hallmarkref4_vars.b0
    by_cases hil : i < l.length
    · have hw : IntKind.i64.wrap ((i : Int) + 1) = ((i + 1 : Nat) : Int) := by rw [wrap64] <;> omega
      rw [firstBad_drop _ hil] at hx
      refine vc_cut (At [(0, vVars l), (4, V.i i)] []) (by simp -dsimp [h, At, hil, vVars]) ?_
      try clear h
      rintro ⟨sl, hp, bs⟩ ⟨rfl, h⟩
      simp only [sls_cons, sls_one, sls_nil] at h
      have hvi := hv _ (List.getElem_mem hil)
      obtain ⟨v, hv'⟩ : ∃ v, v = l[i] := ⟨_, rfl⟩
      rw [← hv'] at hx hvi
      have hbad : ∀ e : Int, e ≠ 0 → varB l i v = e → varsB l = ((i : Int), e) := fun e h0 he => by
        rw [hB, hx, he, if_neg h0]
      refine vc_cut (fun st => varB l i v = 0 ∧ At [(0, vVars l), (4, V.i i)] [] st) ?_ ?_
      · refine vc_block_of ?_
        refine vc_cut (fun st => nameB v.name = true ∧ At [(0, vVars l), (4, V.i i)] [] st) ?_ ?_
        · simp -dsimp [h, hil, vVars, ← hv', Var.cells]
          refine gcall (nameR_spec v.name hvi.1) (by simp -dsimp [h]) (by simp -dsimp [h]) ?_
          cases a : nameB v.name
          · have hb := hbad 41 (by decide) (by unfold varB; rw [a]; rfl)
            simp -dsimp [h, hb, hallmarkref4_vars.rs]
          · simp -dsimp [h, At, vVars]
        try clear h
        rintro ⟨sl, hp, bs⟩ ⟨hnm, rfl, h⟩
        simp only [sls_cons, sls_one, sls_nil] at h
        refine vc_cut (fun st => ((l.take i).any fun w => decide (w.name = v.name)) = false ∧ At [(0, vVars l), (4, V.i i)] [] st) ?_ ?_
        · refine vc_cut (At [(0, vVars l), (4, V.i i), (5, V.i 0)] []) (by simp -dsimp [h, At]) ?_
          try clear h
          rintro ⟨sl, hp, bs⟩ ⟨rfl, h⟩
          simp only [sls_cons, sls_one, sls_nil] at h
          refine vc_block_of (vc_upto 0 (by simp) i (fun k st => ((l.take k).any fun w => decide (w.name = v.name)) = false ∧ At [(0, vVars l), (4, V.i i), (5, V.i k)] [] st) ⟨rfl, rfl, by simpa using h⟩ ?_)
          clear h
          rintro k ⟨sl, hp, bs⟩ hk ⟨hy, rfl, h⟩
          simp only [sls_cons, sls_one] at h
          unfold hallmarkref4_vars.b1
          by_cases hki : k < i
          · have hw : IntKind.i64.wrap ((k : Int) + 1) = ((k + 1 : Nat) : Int) := by rw [wrap64] <;> omega
            have hkl : k < l.length := by omega
            obtain ⟨w, hw'⟩ : ∃ w, w = l[k] := ⟨_, rfl⟩
            refine vc_cut (At [(0, vVars l), (4, V.i i), (5, V.i k)] []) (by simp -dsimp [h, At, hki, vVars]) ?_
            try clear h
            rintro ⟨sl, hp, bs⟩ ⟨rfl, h⟩
            simp only [sls_cons, sls_one, sls_nil] at h
            refine vc_cut (fun st => decide (w.name = v.name) = false ∧ At [(0, vVars l), (4, V.i i), (5, V.i k)] [] st) ?_ ?_
            · refine vc_block_of ?_
              by_cases a : w.name = v.name
              · have hany : ((l.take i).any fun w => decide (w.name = v.name)) = true := List.any_eq_true.2 ⟨w, by rw [hw']; exact List.mem_take_iff_getElem.2 ⟨k, by omega, rfl⟩, by simp [a]⟩
                have hb := hbad 41 (by decide) (by unfold varB; rw [hany]; simp)
                simp -dsimp [h, hkl, hil, vVars, ← hv', ← hw', Var.cells, a, hb, hallmarkref4_vars.rs]
              · have a2 : ¬ w.name.toList = v.name.toList := fun h' => a (byteArray_ext h')
                simp -dsimp [h, At, hkl, hil, vVars, ← hv', ← hw', Var.cells, a, a2]
            try clear h
            rintro ⟨sl, hp, bs⟩ ⟨hb, rfl, h⟩
            simp only [sls_cons, sls_one, sls_nil] at h
            have hx2 : ((l.take (k + 1)).any fun w => decide (w.name = v.name)) = false := by
              rw [anyTake1 hkl, hy, ← hw', hb]; rfl
            rw [hx2]
            simp -dsimp [h, At, hw, hki, vVars]
          · have hki' : k = i := by omega
            subst hki'
            rw [hy]
            simp -dsimp [h, At, vVars]
        try clear h
        rintro ⟨sl, hp, bs⟩ ⟨hany, rfl, h⟩
        simp only [sls_cons, sls_one, sls_nil] at h
        have hb : varB l i v = if !withinB v.lo 1000000000 || !withinB v.hi 1000000000 || decide (v.hi < v.lo) || decide (64 ≤ v.hi - v.lo) then 42 else 0 := by
          unfold varB; rw [hnm, hany]; rfl
        have hbn : (!withinB v.lo 1000000000 || !withinB v.hi 1000000000 || decide (v.hi < v.lo) || decide (64 ≤ v.hi - v.lo)) = !boundsR v.lo v.hi := by
          unfold boundsR
          cases withinB v.lo 1000000000
          · rfl
          · cases withinB v.hi 1000000000
            · rfl
            · rw [Bool.eq_iff_iff]; simp; try omega
        rw [hbn] at hb
        simp -dsimp [h, hil, vVars, ← hv', Var.cells]
        refine gcall (boundsR_spec v.lo v.hi hvi.2.1 hvi.2.2) (by simp -dsimp [h]) (by simp -dsimp [h]) ?_
        cases a : boundsR v.lo v.hi
        · rw [a] at hb
          have hb := hbad 42 (by decide) hb
          simp -dsimp [h, hb, hallmarkref4_vars.rs]
        · rw [a] at hb
          have hb : varB l i v = 0 := hb
          simp -dsimp [h, At, hb, vVars]
      try clear h
      rintro ⟨sl, hp, bs⟩ ⟨hb, rfl, h⟩
      simp only [sls_cons, sls_one, sls_nil] at h
      rw [if_pos hb] at hx
      simp -dsimp [h, At, hw, hil, vVars, hx]
    · have hil' : i = l.length := by omega
      subst hil'
      rw [List.drop_length] at hx
      simp -dsimp [h, At, vVars, hx, firstBad]
  try clear h
  rintro ⟨sl, hp, bs⟩ ⟨hb, rfl, h⟩
  rw [hb] at hB
  simp -dsimp [hB, hallmarkref4_vars.rs]

theorem checkR_spec (m : Model) (hm' : okModel m) : Pf Tryz.prog hallmarkref4_Check.id [.agg m.cells] (.tup [V.i (checkB m).1, V.i (checkB m).2]) := by
  have hM : (maxLen : Int) ≤ 9223372036854775807 := by decide
  obtain ⟨⟨hv, hv'⟩, ⟨hc, hc'⟩, hg, _⟩ := hm'
  refine DC.of hallmarkref4_Check.ok (by simp) ?_
  unfold hallmarkref4_Check.ir
  refine vc_cut (At [(1, .ptr 0 1 0 0)] [.mem false [] [m.cells]]) (by simp -dsimp [At, Model.cells, vVars, vCons, vTerms]) ?_
  try clear h
  rintro ⟨sl, hp, bs⟩ ⟨rfl, h⟩
  simp only [sls_cons, sls_one, sls_nil] at h
  obtain ⟨a, ha⟩ : ∃ a, a = varsB m.vars := ⟨_, rfl⟩
  refine vc_cut (At [(1, .ptr 0 1 0 0), (4, V.i a.1), (5, V.i a.2)] [.mem false [] [m.cells]]) ?_ ?_
  · simp -dsimp [h, Model.cells, vVars, vCons, vTerms]
    refine gcall (varsR_spec m.vars hv hv') (by simp -dsimp [h, vVars]) (by simp -dsimp [h, vVars]) ?_
    simp -dsimp [h, At, ha, Model.cells, vVars, vCons, vTerms]
  try clear h
  rintro ⟨sl, hp, bs⟩ ⟨rfl, h⟩
  simp only [sls_cons, sls_one, sls_nil] at h
  have hne : ∀ (i : Nat) (e : Int), firstBad (varB m.vars) 0 m.vars = some (i, e) → e ≠ 0 := firstBad_ne _ _ _
  refine vc_cut (fun st => (¬ (m.vars.length = 0 ∨ 32 < m.vars.length) ∧ firstBad (varB m.vars) 0 m.vars = none) ∧ At [(1, .ptr 0 1 0 0)] [.mem false [] [m.cells]] st) ?_ ?_
  · by_cases hn : m.vars.length = 0 ∨ 32 < m.vars.length
    · have hA : varsB m.vars = (0, 40) := by unfold varsB; rw [if_pos hn]
      have hC : checkB m = (0, 40) := by unfold checkB; rw [if_pos hn]
      rw [ha, hA] at h
      simp -dsimp [h, hC, hallmarkref4_Check.rs]
    · cases hf : firstBad (varB m.vars) 0 m.vars with
      | none =>
        have hA : varsB m.vars = (0, 0) := by unfold varsB; rw [if_neg hn, hf]
        rw [ha, hA] at h
        simp -dsimp [h, At]
        have : ¬ m.vars = [] := fun e => hn (.inl (by rw [e]; rfl))
        exact ⟨this, by omega⟩
      | some p =>
        obtain ⟨i, e⟩ := p
        have hA : varsB m.vars = ((i : Int), e) := by unfold varsB; rw [if_neg hn, hf]
        have hC : checkB m = ((i : Int), e) := by unfold checkB; rw [if_neg hn, hf]
        rw [ha, hA] at h
        have := hne i e hf
        simp -dsimp [h, hC, this, hallmarkref4_Check.rs]
  try clear h
  rintro ⟨sl, hp, bs⟩ ⟨⟨hn, he1⟩, rfl, h⟩
  simp only [sls_cons, sls_one, sls_nil] at h
  have hn0 : 0 < m.vars.length := by omega
  refine vc_cut (At [(1, .ptr 0 1 0 0), (6, V.i m.vars.length)] [.mem false [] [m.cells]]) (by simp -dsimp [h, At, Model.cells, vVars, vCons, vTerms]) ?_
  try clear h
  rintro ⟨sl, hp, bs⟩ ⟨rfl, h⟩
  simp only [sls_cons, sls_one, sls_nil] at h
  refine vc_cut (fun st => ¬ 64 < m.cons.length ∧ At [(1, .ptr 0 1 0 0), (6, V.i m.vars.length)] [.mem false [] [m.cells]] st) ?_ ?_
  · by_cases l1 : 64 < m.cons.length
    · have l1' : (64 : Int) < m.cons.length := by omega
      have hC : checkB m = ((m.vars.length : Int), 49) := by unfold checkB; rw [if_neg hn, he1]; simp only; rw [if_pos l1]
      simp -dsimp [h, hC, l1', Model.cells, vVars, vCons, vTerms, hallmarkref4_Check.rs]
    · have l1' : ¬ (64 : Int) < m.cons.length := by omega
      simp -dsimp [h, At, l1', l1, Model.cells, vVars, vCons, vTerms]
  try clear h
  rintro ⟨sl, hp, bs⟩ ⟨hn2, rfl, h⟩
  simp only [sls_cons, sls_one, sls_nil] at h
  refine vc_cut (fun st => firstBad (fun _ c => conB c m.vars.length) 0 m.cons = none ∧ At [(1, .ptr 0 1 0 0), (6, V.i m.vars.length)] [.mem false [] [m.cells]] st) ?_ ?_
  · refine vc_cut (At [(1, .ptr 0 1 0 0), (6, V.i m.vars.length), (7, V.i 0)] [.mem false [] [m.cells]]) (by simp -dsimp [h, At]) ?_
    try clear h
    rintro ⟨sl, hp, bs⟩ ⟨rfl, h⟩
    simp only [sls_cons, sls_one, sls_nil] at h
    refine vc_block_of (vc_upto 1 (by simp) m.cons.length (fun i st => firstBad (fun _ c => conB c m.vars.length) 0 m.cons = firstBad (fun _ c => conB c m.vars.length) i (m.cons.drop i) ∧ At [(1, .ptr 0 1 0 0), (6, V.i m.vars.length), (7, V.i i)] [.mem false [] [m.cells]] st) ⟨rfl, rfl, by simpa using h⟩ ?_)
    clear h
    rintro i ⟨sl, hp, bs⟩ hi ⟨hx, rfl, h⟩
    simp only [sls_cons, sls_one] at h
    unfold hallmarkref4_Check.b0
    by_cases hil : i < m.cons.length
    · have hw : IntKind.i64.wrap ((i : Int) + 1) = ((i + 1 : Nat) : Int) := by rw [wrap64] <;> omega
      have hw2 : IntKind.i64.wrap ((m.vars.length : Int) + i) = m.vars.length + i := by rw [wrap64] <;> omega
      rw [firstBad_drop _ hil] at hx
      refine vc_cut (At [(1, .ptr 0 1 0 0), (6, V.i m.vars.length), (7, V.i i)] [.mem false [] [m.cells]]) (by simp -dsimp [h, At, hil, Model.cells, vVars, vCons, vTerms]) ?_
      try clear h
      rintro ⟨sl, hp, bs⟩ ⟨rfl, h⟩
      simp only [sls_cons, sls_one, sls_nil] at h
      have hci := hc' _ (List.getElem_mem hil)
      obtain ⟨c, hcc⟩ : ∃ c, c = m.cons[i] := ⟨_, rfl⟩
      rw [← hcc] at hx hci
      refine vc_cut (fun st => conB c m.vars.length = 0 ∧ At [(1, .ptr 0 1 0 0), (6, V.i m.vars.length), (7, V.i i)] [.mem false [] [m.cells]] st) ?_ ?_
      · refine vc_block_of ?_
        refine vc_cut (At [(1, .ptr 0 1 0 0), (5, V.i (conB c m.vars.length)), (6, V.i m.vars.length), (7, V.i i)] [.mem false [] [m.cells]]) ?_ ?_
        · simp -dsimp [h, hil, ← hcc, Model.cells, vVars, vCons, vTerms, Con.cells, vInts, vIntss]
          refine gcall (conR_spec c m.vars.length (by omega) hci) (by simp -dsimp [h, vVars, vCons, vTerms, Con.cells, vInts, vIntss]) (by simp -dsimp [h, Con.cells, vTerms, vInts, vIntss]) ?_
          simp -dsimp [h, At, Model.cells, vVars, vCons, vTerms, Con.cells, vInts, vIntss]
        try clear h
        rintro ⟨sl, hp, bs⟩ ⟨rfl, h⟩
        simp only [sls_cons, sls_one, sls_nil] at h
        by_cases hb : conB c m.vars.length = 0
        · simp -dsimp [h, At, hb]
        · rw [if_neg hb] at hx
          have hC : checkB m = ((m.vars.length : Int) + i, conB c m.vars.length) := by unfold checkB; rw [if_neg hn, he1]; simp only; rw [if_neg hn2, hx]
          simp -dsimp [h, hb, hC, hw2, hallmarkref4_Check.rs]
      try clear h
      rintro ⟨sl, hp, bs⟩ ⟨hb, rfl, h⟩
      simp only [sls_cons, sls_one, sls_nil] at h
      rw [if_pos hb] at hx
      simp -dsimp [h, At, hw, hil, hx, Model.cells, vVars, vCons, vTerms]
    · have hil' : i = m.cons.length := by omega
      subst hil'
      rw [List.drop_length] at hx
      simp -dsimp [h, At, hx, firstBad, Model.cells, vVars, vCons, vTerms]
  try clear h
  rintro ⟨sl, hp, bs⟩ ⟨he2, rfl, h⟩
  simp only [sls_cons, sls_one, sls_nil] at h
  have hw2 : IntKind.i64.wrap ((m.vars.length : Int) + m.cons.length) = m.vars.length + m.cons.length := by rw [wrap64] <;> omega
  have hC : checkB m = if goalB m = 0 then (0, 0) else ((m.vars.length : Int) + m.cons.length, goalB m) := by
    unfold checkB; rw [if_neg hn, he1]; simp only; rw [if_neg hn2, he2]
  have hG : m.hasGoal = true → goalB m = if manyB m.goal.length then 47 else termsR m.goal m.vars.length := fun e => by
    unfold goalB termsR manyB countsB
    rw [e]
    by_cases g1 : m.goal.length < 1
    · have : ¬ 1 ≤ m.goal.length := by omega
      simp [g1, this]
    · by_cases g2 : 64 < m.goal.length
      · have : ¬ m.goal.length ≤ 64 := by omega
        simp [g2, this]
      · have h1 : 1 ≤ m.goal.length := by omega
        have h2 : m.goal.length ≤ 64 := by omega
        simp only [g1, g2, h1, h2]
        simp
  refine vc_cut (At [(1, .ptr 0 1 0 0), (4, V.i (m.vars.length + m.cons.length)), (6, V.i m.vars.length)] [.mem false [] [m.cells]]) (by simp -dsimp [h, At, hw2, Model.cells, vVars, vCons, vTerms]) ?_
  try clear h
  rintro ⟨sl, hp, bs⟩ ⟨rfl, h⟩
  simp only [sls_cons, sls_one, sls_nil] at h
  refine vc_cut (fun st => m.hasGoal = true ∧ At [(1, .ptr 0 1 0 0), (4, V.i (m.vars.length + m.cons.length)), (6, V.i m.vars.length)] [.mem false [] [m.cells]] st) ?_ ?_
  · cases hgo : m.hasGoal
    · by_cases hgl : 0 < m.goal.length
      · have hgl' : (0 : Int) < m.goal.length := by omega
        have hb : goalB m = 48 := by unfold goalB; rw [hgo]; simp [hgl]
        rw [hb, if_neg (by decide)] at hC
        simp -dsimp [h, hgo, hgl, hC, Model.cells, vVars, vCons, vTerms, hallmarkref4_Check.rs]
      · have hg0 : m.goal = [] := List.length_eq_zero_iff.1 (by omega)
        have hb : goalB m = 0 := by unfold goalB; rw [hgo, hg0]; rfl
        rw [hb, if_pos rfl] at hC
        simp -dsimp [h, hgo, hg0, hC, Model.cells, vVars, vCons, vTerms, hallmarkref4_Check.rs]
    · simp -dsimp [h, At, hgo, Model.cells, vVars, vCons, vTerms]
  try clear h
  rintro ⟨sl, hp, bs⟩ ⟨hgo, rfl, h⟩
  simp only [sls_cons, sls_one, sls_nil] at h
  replace hG := hG hgo
  refine vc_cut (fun st => manyB m.goal.length = false ∧ At [(1, .ptr 0 1 0 0), (4, V.i (m.vars.length + m.cons.length)), (6, V.i m.vars.length)] [.mem false [] [m.cells]] st) ?_ ?_
  · simp -dsimp [h, Model.cells, vVars, vCons, vTerms]
    refine gcall (manyR_spec m.goal.length) (by simp -dsimp [h]) (by simp -dsimp [h]) ?_
    cases a : manyB m.goal.length
    · simp -dsimp [h, At, a, Model.cells, vVars, vCons, vTerms]
    · rw [a] at hG
      rw [hG, if_pos rfl, if_neg (by decide)] at hC
      simp -dsimp [h, hC, hallmarkref4_Check.rs]
  try clear h
  rintro ⟨sl, hp, bs⟩ ⟨hmn, rfl, h⟩
  simp only [sls_cons, sls_one, sls_nil] at h
  rw [hmn, if_neg (by simp)] at hG
  rw [hG] at hC
  refine vc_cut (At [(4, V.i (m.vars.length + m.cons.length)), (5, V.i (termsR m.goal m.vars.length))] [.mem false [] [m.cells]]) ?_ ?_
  · simp -dsimp [h, Model.cells, vVars, vCons, vTerms]
    refine gcall (termsR_spec m.goal m.vars.length hg) (by simp -dsimp [h, vTerms]) (by simp -dsimp [h, vTerms]) ?_
    simp -dsimp [h, At, Model.cells, vVars, vCons, vTerms]
  try clear h
  rintro ⟨sl, hp, bs⟩ ⟨rfl, h⟩
  simp only [sls_cons, sls_one, sls_nil] at h
  by_cases e : termsR m.goal m.vars.length = 0
  · rw [if_pos e] at hC
    simp -dsimp [h, e, hC, hallmarkref4_Check.rs]
  · rw [if_neg e] at hC
    simp -dsimp [h, e, hC, hallmarkref4_Check.rs]
end Go.Abs.G


namespace Go.Abs.G
open Go.Proofs
set_option linter.unusedVariables false
set_option linter.unusedSimpArgs false

def rangeR (v : Var) : List Int := (List.range (v.hi - v.lo + 1).toNat).map fun (i : Nat) => v.lo + (i : Int)
def refOf (m : Model) : List (List Int) := if (checkB m).2 = 0 then m.vars.map rangeR else []
def RN (B : O) (D : List (List V)) : Heap := [B, .mem false [2, 3] [[.own 2 1 0 D.length D.length, .own 3 1 0 0 0]], .mem false [] D, .mem false [] []]

def runR (lo : Int) (n : Nat) : List Int := (List.range n).map fun (i : Nat) => lo + (i : Int)
theorem runR_succ (lo : Int) (n : Nat) : runR lo (n + 1) = runR lo n ++ [lo + n] := by simp [runR, List.range_succ]
@[simp] theorem runR_len (lo : Int) (n : Nat) : (runR lo n).length = n := by simp [runR]
theorem newR_open (m : Model) (hm : okModel m) : DC Tryz.prog hallmarkref11_New.id [.agg m.cells] [] (fun r H => r = .ptr 1 1 0 0 ∧ ∃ E, H = RN (.mem false [] [m.cells]) (dR (refOf m)) ++ E) := by
  have hc := checkR_spec m hm
  refine DC.of hallmarkref11_New.ok (by simp) ?_
  unfold hallmarkref11_New.ir
  obtain ⟨B, hB⟩ : ∃ B, B = O.mem false [] [m.cells] := ⟨_, rfl⟩
  rw [← hB]
  refine vc_cut (At [(1, .ptr 0 1 0 0)] [B]) (by simp -dsimp [At, hB, Model.cells, vVars, vCons, vTerms]) ?_
  try clear h
  rintro ⟨sl, hp, bs⟩ ⟨rfl, h⟩
  simp only [sls_cons, sls_one, sls_nil] at h
  refine vc_cut (At [(1, .ptr 0 1 0 0), (3, .ptr 1 1 0 0)] [B, .mem false [] [[nilS, nilS]]]) (by simp -dsimp [h, At, hB]) ?_
  try clear h
  rintro ⟨sl, hp, bs⟩ ⟨rfl, h⟩
  simp only [sls_cons, sls_one, sls_nil] at h
  obtain ⟨c2, hc2⟩ : ∃ c2, c2 = (checkB m).2 := ⟨_, rfl⟩
  refine vc_cut (At [(1, .ptr 0 1 0 0), (3, .ptr 1 1 0 0), (5, V.i c2)] (RN B [])) ?_ ?_
  · simp -dsimp [h]
    refine ⟨_, Weak.nil2m (id := 1) (e1 := 1) (e2 := 1) (t := 3) (by simp -dsimp) (by simp -dsimp [h]), ?_⟩
    simp -dsimp [h, hB, Model.cells, vVars, vCons, vTerms]
    refine gcall hc (by simp -dsimp [h, Model.cells, vVars, vCons, vTerms]) (by simp -dsimp [h, Model.cells, vVars, vCons, vTerms]) ?_
    simp -dsimp [h, At, RN, hc2, hB, Model.cells, vVars, vCons, vTerms]
  try clear h
  rintro ⟨sl, hp, bs⟩ ⟨rfl, h⟩
  simp only [sls_cons, sls_one, sls_nil] at h
  refine vc_cut (At [(3, .ptr 1 1 0 0)] (RN B (dR (refOf m)))) ?_ ?_
  · refine vc_cut (At [(1, .ptr 0 1 0 0), (3, .ptr 1 1 0 0), (5, V.i c2), (6, V.i 0)] (RN B [])) (by simp -dsimp [h, At]) ?_
    try clear h
    rintro ⟨sl, hp, bs⟩ ⟨rfl, h⟩
    simp only [sls_cons, sls_one, sls_nil] at h
    by_cases hz : c2 = 0
    · subst hz
      have hR : refOf m = m.vars.map rangeR := by unfold refOf; rw [if_pos hc2.symm]
      have hRt : Right m := right_iff.1 (by simp [rightB, ← hc2])
      rw [hR]
      have hnv := hRt.nv
      refine vc_block_of (vc_upto 4 (by simp [RN]) m.vars.length (fun j st => At [(1, .ptr 0 1 0 0), (3, .ptr 1 1 0 0), (5, V.i 0), (6, V.i j)] (RN B (dR ((m.vars.take j).map rangeR))) st) ⟨rfl, by simpa using h⟩ ?_)
      clear h
      rintro j ⟨sl, hp, bs⟩ hj ⟨rfl, h⟩
      simp only [sls_cons, sls_one] at h
      unfold hallmarkref11_New.b0
      by_cases hjl : j < m.vars.length
      · have hvo := VarOk.of (hRt.var j _ (List.getElem?_eq_getElem hjl))
        obtain ⟨v, hv⟩ : ∃ v, v = m.vars[j] := ⟨_, rfl⟩
        rw [← hv] at hvo
        obtain ⟨b1, b2, b3, b4⟩ := hvo
        have b5 : v.lo ≤ v.hi := by omega
        have hw : IntKind.i64.wrap ((j : Int) + 1) = ((j + 1 : Nat) : Int) := by rw [wrap64] <;> omega
        obtain ⟨L, hL⟩ : ∃ L, L = dR ((m.vars.take j).map rangeR) := ⟨_, rfl⟩
        have hLl : L.length = j := by rw [hL, dR_len, List.length_map, List.length_take]; omega
        have hT : dR ((m.vars.take (j + 1)).map rangeR) = L ++ [[vInts (rangeR v)]] := by
          rw [List.take_succ_eq_append_getElem hjl, List.map_append, hL, dR, dR, List.map_append, ← hv]; rfl
        rw [← hL]
        refine vc_cut (At [(1, .ptr 0 1 0 0), (3, .ptr 1 1 0 0), (5, V.i 0), (6, V.i j)] (RN B L)) (by simp -dsimp [h, At, RN, hB, hjl, Model.cells, vVars, vCons, vTerms]) ?_
        try clear h
        rintro ⟨sl, hp, bs⟩ ⟨rfl, h⟩
        simp only [sls_cons, sls_one, sls_nil] at h
        rw [hT]
        refine vc_cut (fun st => ∃ E, At [(1, .ptr 0 1 0 0), (3, .ptr 1 1 0 0), (5, V.i 0), (6, V.i j)] (RN B (L ++ [[vInts (rangeR v)]]) ++ E) st) ?_ ?_
        · refine vc_block_of ?_
          refine vc_cut (At [(1, .ptr 0 1 0 0), (3, .ptr 1 1 0 0), (5, V.i 0), (6, V.i j), (7, nilS)] (RN B L)) (by simp -dsimp [h, At]) ?_
          try clear h
          rintro ⟨sl, hp, bs⟩ ⟨rfl, h⟩
          simp only [sls_cons, sls_one, sls_nil] at h
          refine vc_cut (At [(1, .ptr 0 1 0 0), (3, .ptr 1 1 0 0), (5, V.i 0), (6, V.i j), (7, .own 5 1 0 (rangeR v).length (rangeR v).length)] (RN B L ++ [.res, .mem false [] ((rangeR v).map fun n => [V.i n])])) ?_ ?_
          · refine vc_cut (At [(1, .ptr 0 1 0 0), (3, .ptr 1 1 0 0), (5, V.i 0), (6, V.i j), (7, nilS), (8, V.i v.lo)] (RN B L)) (by simp -dsimp [h, At, RN, hB, hjl, ← hv, Model.cells, vVars, vCons, vTerms, Var.cells]) ?_
            try clear h
            rintro ⟨sl, hp, bs⟩ ⟨rfl, h⟩
            simp only [sls_cons, sls_one, sls_nil] at h
            obtain ⟨n, hn⟩ : ∃ n : Nat, n = (v.hi - v.lo + 1).toNat := ⟨_, rfl⟩
            have hrg : rangeR v = runR v.lo n := by unfold rangeR runR; rw [hn]
            rw [hrg, runR_len]
            refine vc_block_of (vc_upto 6 (by simp [RN]) n (fun i st => (i = 0 ∧ At [(1, .ptr 0 1 0 0), (3, .ptr 1 1 0 0), (5, V.i 0), (6, V.i j), (7, nilS), (8, V.i (v.lo + i))] (RN B L) st) ∨ At [(1, .ptr 0 1 0 0), (3, .ptr 1 1 0 0), (5, V.i 0), (6, V.i j), (7, .own 5 1 0 i i), (8, V.i (v.lo + i))] (RN B L ++ [.res, .mem false [] ((runR v.lo i).map fun n => [V.i n])]) st) (.inl ⟨rfl, rfl, by simpa using h⟩) ?_)
            clear h
            rintro i ⟨sl, hp, bs⟩ hi hh
            unfold hallmarkref11_New.b1
            by_cases hil : i < n
            · have hle : v.lo + i ≤ v.hi := by omega
              have hw2 : IntKind.i64.wrap (v.lo + (i : Int) + 1) = v.lo + ((i + 1 : Nat) : Int) := by rw [wrap64] <;> omega
              have hr1 := runR_succ v.lo i
              rcases hh with ⟨rfl, rfl, h⟩ | ⟨rfl, h⟩ <;> simp only [sls_cons, sls_one] at h
              · refine vc_cut (At [(1, .ptr 0 1 0 0), (3, .ptr 1 1 0 0), (5, V.i 0), (6, V.i j), (7, nilS), (8, V.i v.lo)] (RN B L)) (by simp -dsimp [h, At, RN, hB, hjl, b5, ← hv, Model.cells, vVars, vCons, vTerms, Var.cells]) ?_
                try clear h
                rintro ⟨sl, hp, bs⟩ ⟨rfl, h⟩
                simp only [sls_cons, sls_one, sls_nil] at h
                refine vc_cut (At [(1, .ptr 0 1 0 0), (3, .ptr 1 1 0 0), (5, V.i 0), (6, V.i j), (7, .own 5 1 0 1 1), (8, V.i v.lo)] (RN B L ++ [.res, .mem false [] [[V.i v.lo]]])) (by simp -dsimp [h, At, RN]) ?_
                try clear h
                rintro ⟨sl, hp, bs⟩ ⟨rfl, h⟩
                simp only [sls_cons, sls_one, sls_nil] at h
                have hw3 : IntKind.i64.wrap (v.lo + 1) = v.lo + 1 := by rw [wrap64] <;> omega
                have hr2 : runR v.lo 1 = [v.lo] := by simp [runR]
                simp -dsimp [h, At, RN, hw3, hil, limO, O.refs, hB, hr2]
              · refine vc_cut (At [(1, .ptr 0 1 0 0), (3, .ptr 1 1 0 0), (5, V.i 0), (6, V.i j), (7, .own 5 1 0 i i), (8, V.i (v.lo + i))] (RN B L ++ [.res, .mem false [] ((runR v.lo i).map fun n => [V.i n])])) (by simp -dsimp [h, At, RN, hB, hjl, hle, ← hv, Model.cells, vVars, vCons, vTerms, Var.cells]) ?_
                try clear h
                rintro ⟨sl, hp, bs⟩ ⟨rfl, h⟩
                simp only [sls_cons, sls_one, sls_nil] at h
                refine vc_cut (fun st => ∃ E, At [(1, .ptr 0 1 0 0), (3, .ptr 1 1 0 0), (5, V.i 0), (6, V.i j), (7, .own 5 1 0 (i + 1) (i + 1)), (8, V.i (v.lo + i))] (RN B L ++ .res :: .mem false [] ((runR v.lo (i + 1)).map fun n => [V.i n]) :: E) st) ?_ ?_
                · rw [hr1]
                  simp -dsimp [h, At, RN]
                  omega
                rintro ⟨sl, hp, bs⟩ ⟨E, rfl, h⟩; simp only [sls_cons, sls_one] at h
                simp -dsimp [h, At, RN, hw2, hil, limO, O.refs, hB]
            · have hle : ¬ v.lo + i ≤ v.hi := by omega
              have hin : i = n := by omega
              subst hin
              rcases hh with ⟨rfl, rfl, h⟩ | ⟨rfl, h⟩ <;> simp only [sls_cons, sls_one] at h
              · omega
              · simp -dsimp [h, At, RN, hB, hjl, hle, ← hv, Model.cells, vVars, vCons, vTerms, Var.cells]
          try clear h
          rintro ⟨sl, hp, bs⟩ ⟨rfl, h⟩
          simp only [sls_cons, sls_one, sls_nil] at h
          have hrl : (rangeR v).length = (v.hi - v.lo + 1).toNat := by simp [rangeR]
          have t2 : List.take (rangeR v).length ((rangeR v).map fun n => [V.i n]) = (rangeR v).map fun n => [V.i n] := List.take_of_length_le (by simp)
          simp -dsimp [h, At, RN, t2, hLl]
          exact ⟨by omega, rfl⟩
        rintro ⟨sl, hp, bs⟩ ⟨E, rfl, h⟩; simp only [sls_cons, sls_one] at h
        simp -dsimp [h, At, hjl, hw, RN, limO, O.refs, hB]
      · have hil' : j = m.vars.length := by omega
        subst hil'
        rw [List.take_length]
        simp -dsimp [h, At, RN, hB, Model.cells, vVars, vCons, vTerms]
    · have : refOf m = [] := by unfold refOf; rw [if_neg (by rw [← hc2]; exact hz)]
      rw [this]
      refine vc_block_of (vc_upto 4 (by simp [RN]) 0 (fun i st => At [(1, .ptr 0 1 0 0), (3, .ptr 1 1 0 0), (5, V.i c2), (6, V.i 0)] (RN B []) st) ⟨rfl, by simpa using h⟩ ?_)
      clear h
      rintro i ⟨sl, hp, bs⟩ hi ⟨rfl, h⟩
      simp only [sls_cons, sls_one] at h
      unfold hallmarkref11_New.b0
      by_cases hv : 0 < m.vars.length
      · simp -dsimp [h, At, RN, hB, hv, hz, Model.cells, vVars, vCons, vTerms]
        rfl
      · simp -dsimp [h, At, RN, hB, hv, hz, Model.cells, vVars, vCons, vTerms]
        rfl
  try clear h
  rintro ⟨sl, hp, bs⟩ ⟨rfl, h⟩
  simp only [sls_cons, sls_one, sls_nil] at h
  simp -dsimp [h, hallmarkref11_New.rs]

theorem newRP (m : Model) (hm : okModel m) : DC Tryz.prog hallmarkref11_New.id [.agg m.cells] [] (fun r H => r = .ptr 0 1 0 0 ∧ H = [RR (refOf m) []]) := by
  refine DC.picks (Q := fun r H => r = .ptr 1 1 0 0 ∧ H[1]? = some (RR (refOf m) [])) ?_ ?_
  rotate_left
  · rintro r H ⟨rfl, h1⟩
    refine ⟨[1], ⟨by simp, fun i hi => ?_, fun i hi => ?_, fun i hi k hk => ?_⟩, by simp, by simp [V.ids], rfl, ?_⟩
    · simp only [List.mem_cons, List.not_mem_nil, or_false] at hi; subst hi; exact lt_of_get h1
    · simp only [List.mem_cons, List.not_mem_nil, or_false] at hi; subst hi; rw [getD_some h1]; simp [RR, R1]
    · simp only [List.mem_cons, List.not_mem_nil, or_false] at hi; subst hi; rw [getD_some h1] at hk; cases hk
    · simp only [sub, List.map_cons, List.map_nil, getD_some h1, RR_ren]
  refine DC.post' (newR_open m hm) ?_
  rintro x H1 ⟨rfl, E, rfl⟩ w β F vs hk hrv
  obtain ⟨β1, H2, a1, g1, l1, s1⟩ := close_R (p := 1) (a := 2) (b := 3) (D := dR (refOf m)) (M := mR []) hk rfl rfl rfl (fl_dR _) (fl_mR _) (by simp) (by simp) (by simp) (lo_arg (i := 0) hrv rfl rfl)
  exact ⟨β1, H2, a1, rfl, g1⟩
end Go.Abs.G


namespace Go.Abs.G
open Go.Proofs
set_option linter.unusedVariables false
set_option linter.unusedSimpArgs false

@[simp ↓ high] theorem St1_tree (s : List Dom) (T : List (List Ce)) : (St1 s T).isTree = true := rfl
@[simp ↓ high] theorem St1_trows (s : List Dom) (T : List (List Ce)) : (St1 s T).trows = 1 := rfl
@[simp ↓ high] theorem St1_isMem (s : List Dom) (T : List (List Ce)) : (St1 s T).isMem = false := rfl
@[simp ↓ high] theorem St1_refs (s : List Dom) (T : List (List Ce)) : (St1 s T).refs = [] := rfl
@[simp ↓ high] theorem St1_lim' (n : Nat) (s : List Dom) (T : List (List Ce)) : limO n (St1 s T) = St1 s T := St1_lim n s T
@[simp ↓ high] theorem St1_ren (f : Nat → Nat) (s : List Dom) (ms : List (List Dom)) : O.ren f (St1 s (mT ms)) = St1 s (mT ms) := by
  simp [St1, O.ren, Ce.renR, Ce.renL, Ce.ren, domCe_ren, mT_ren]
@[simp] theorem St1_clo (s : List Dom) (ms : List (List Dom)) : (St1 s (mT ms)).clo := ⟨rfl, fun f => St1_ren f s ms, fun e => by cases e⟩

end Go.Abs.G


namespace Go.Abs.G
open Go.Proofs
set_option linter.unusedVariables false
set_option linter.unusedSimpArgs false

structure DOp where
  kind : Int
  ck : Int
  cx : Int
  cv : Int
  n : Int
structure DCut where
  k : Int
  x : Int
  v : Int
def DOp.cells (o : DOp) : List V := [V.i o.kind, V.i o.ck, V.i o.cx, V.i o.cv, V.i o.n]
def DCut.cells (c : DCut) : List V := [V.i c.k, V.i c.x, V.i c.v]
def vCuts (l : List DCut) : V := .view 3 (l.map DCut.cells)

structure SG (s : List Dom) (ms : List (List Dom)) : Prop extends SOk s ms where
  L : ∀ L ∈ ms, L.length ≤ 64 ∧ ∀ d ∈ L, d.ok

theorem cutS_cases (s : List Dom) (k x v : Int) : (cutS s k x v).1 = s ∨ ∃ d, s[x.toNat]? = some d ∧ (cutS s k x v).1 = s.set x.toNat (cutTo k v d d.width) := by
  unfold cutS
  split
  · split
    · next d e => split
                  · exact .inl rfl
                  · exact .inr ⟨d, e, rfl⟩
    · exact .inl rfl
  · exact .inl rfl
theorem cutS_len (s : List Dom) (k x v : Int) : (cutS s k x v).1.length = s.length := by
  rcases cutS_cases s k x v with e | ⟨d, _, e⟩ <;> rw [e]; simp
theorem cutS_ok {s : List Dom} (k x v : Int) (h : ∀ d ∈ s, d.ok) : ∀ d ∈ (cutS s k x v).1, d.ok := by
  rcases cutS_cases s k x v with e | ⟨d, hd, e⟩ <;> rw [e]
  · exact h
  · intro d' hd'
    rcases List.mem_or_eq_of_mem_set hd' with h' | rfl
    · exact h d' h'
    · exact cutTo_ok k v (h d (List.mem_of_getElem? hd)) _
theorem SG.cut {s : List Dom} {ms : List (List Dom)} (h : SG s ms) (k x v : Int) : SG (cutS s k x v).1 ms :=
  ⟨⟨by rw [cutS_len]; exact h.n, h.k, cutS_ok k x v h.d⟩, h.L⟩

def cutsB : List Dom → List DCut → List Dom × Bool
  | s, [] => (s, true)
  | s, c :: l => if (cutS s c.k c.x c.v).2.2 then cutsB (cutS s c.k c.x c.v).1 l else ((cutS s c.k c.x c.v).1, false)

end Go.Abs.G


namespace Go.Abs.G
open Go.Proofs
set_option linter.unusedVariables false
set_option linter.unusedSimpArgs false

theorem drop_has {d : Dom} (h : d.ok) {k i : Nat} (hk : k < 64) (hi : i < 64) : (d.drop k).has i = (d.has i && !decide (i = k)) := by
  unfold Dom.drop Dom.has
  by_cases h1 : k < 32
  · rw [if_pos h1]
    by_cases h2 : i < 32
    · simp only [h2, if_true]; exact clr_bit h.a h1 i
    · simp only [h2, if_false]
      have : i ≠ k := by omega
      simp [this]
  · rw [if_neg h1]
    by_cases h2 : i < 32
    · simp only [h2, if_true]
      have : i ≠ k := by omega
      simp [this]
    · simp only [h2, if_false]
      rw [clr_bit h.b (by omega)]
      have : (i - 32 = k - 32) ↔ i = k := by omega
      simp [this]

theorem cutTo_has (k v : Int) {d : Dom} (h : d.ok) : ∀ n, n ≤ 64 → ∀ i, i < 64 → (cutTo k v d n).has i = (d.has i && !(decide (i < n) && goesB k v (d.from' + i))) := by
  intro n
  induction n with
  | zero => intro _ i _; simp [cutTo]
  | succ n ih =>
    intro hn i hi
    have ih := ih (by omega) i hi
    unfold cutTo
    have hin : i < n + 1 ↔ (i < n ∨ i = n) := by omega
    split
    · next hg =>
      rw [drop_has (cutTo_ok k v h n) (by omega) hi, ih]
      by_cases hi2 : i = n
      · subst hi2; simp [hg]
      · have : decide (i < n + 1) = decide (i < n) := by simp; omega
        simp [hi2, this]
    · next hg =>
      rw [ih]
      by_cases hi2 : i = n
      · subst hi2
        have : goesB k v (d.from' + i) = false := by simpa using hg
        simp [this]
      · have : decide (i < n + 1) = decide (i < n) := by simp; omega
        rw [this]

def NE (s : List Dom) : Prop := ∀ d ∈ s, d.none = false
theorem NE.cut {s : List Dom} (h : NE s) (k x v : Int) : NE (cutS s k x v).1 := by
  unfold cutS
  split
  · split
    · next d e =>
      split
      · exact h
      · next hn =>
        intro d' hd'
        rcases List.mem_or_eq_of_mem_set hd' with h' | rfl
        · exact h d' h'
        · simpa using hn
    · exact h
  · exact h
theorem NE.cuts : ∀ (l : List DCut) {s : List Dom}, NE s → NE (cutsB s l).1
  | [], s, h => h
  | c :: l, s, h => by
    unfold cutsB
    split
    · exact NE.cuts l (h.cut _ _ _)
    · exact h.cut _ _ _

theorem add_has {d : Dom} (h : d.ok) {k i : Nat} (hk : k < 64) (hi : i < 64) : (d.add k).has i = (d.has i || decide (i = k)) := by
  unfold Dom.add Dom.has
  by_cases h1 : k < 32
  · rw [if_pos h1]
    by_cases h2 : i < 32
    · simp only [h2, if_true]; exact sett_bit h.a h1 i
    · simp only [h2, if_false]
      have : i ≠ k := by omega
      simp [this]
  · rw [if_neg h1]
    by_cases h2 : i < 32
    · simp only [h2, if_true]
      have : i ≠ k := by omega
      simp [this]
    · simp only [h2, if_false]
      rw [sett_bit h.b (by omega)]
      have : (i - 32 = k - 32) ↔ i = k := by omega
      simp [this]
theorem fillTo_has {d : Dom} (h : d.ok) : ∀ n, n ≤ 64 → ∀ i, i < 64 → (fillTo d n).has i = (d.has i || decide (i < n)) := by
  intro n
  induction n with
  | zero => intro _ i _; simp [fillTo]
  | succ n ih =>
    intro hn i hi
    have ih := ih (by omega) i hi
    unfold fillTo
    rw [add_has (fillTo_ok h n) (by omega) hi, ih]
    by_cases h1 : i = n
    · subst h1; simp
    · have : decide (i < n + 1) = decide (i < n) := by simp; omega
      simp [h1, this]
theorem domOf_from (v : Var) : (domOf v).from' = v.lo := fillTo_from _ _
theorem domOf_width (v : Var) : (domOf v).width = (v.hi - v.lo + 1).toNat := fillTo_width _ _
theorem domOf_has {v : Var} (h : VarOk v) {i : Nat} (hi : i < (domOf v).width) : (domOf v).has i = true := by
  have hok := dom0_ok h
  have hw := hok.w
  rw [domOf_width] at hi
  have hi' : i < (dom0 v).width := hi
  unfold domOf
  rw [fillTo_has hok _ hw i (by omega)]
  simp [hi']
theorem none_of_has {d : Dom} {i : Nat} (h : d.has i = true) : d.none = false := by
  unfold Dom.none
  unfold Dom.has at h
  split at h
  · have : d.a ≠ 0 := fun e => by rw [e] at h; simp at h
    simp [this]
  · have : d.b ≠ 0 := fun e => by rw [e] at h; simp at h
    simp [this]

theorem vals_eq {d d' : Dom} (hf : d'.from' = d.from') (hw : d'.width = d.width) (hh : ∀ i, i < d.width → d'.has i = d.has i) : d'.vals d'.width = d.vals d.width := by
  unfold Dom.vals
  rw [hw, hf]
  congr 1
  refine List.filter_congr fun i hi => ?_
  exact hh i (List.mem_range.1 hi)

end Go.Abs.G


/- What the reference's store tells is what the store tells. -/
namespace Go.Abs.G
set_option linter.unusedVariables false
set_option linter.unusedSimpArgs false

structure DG (x : Dom) : Prop where
  ok : x.ok
  full : ∀ i, i < 64 → x.width ≤ i → x.has i = false
  ne : x.none = false
def refD (s : List Dom) : List (List Int) := s.map fun x => x.vals x.width

theorem refD_len (s : List Dom) : (refD s).length = s.length := by simp [refD]
theorem is_ref (s : List Dom) (x : Int) : isR (refD s) x = isB s x := by simp [isR, isB, refD_len]
theorem row_ref (s : List Dom) (x : Int) : rowR (refD s) x = valsB s x := by
  unfold rowR valsB
  rw [is_ref]
  by_cases h : isB s x = true
  · rw [if_pos h, if_pos h]; simp [refD, List.getElem?_map]
  · rw [if_neg h, if_neg h]
theorem size_has {x : Dom} (h : x.ok) : x.size = (List.range 64).countP x.has := by
  have e : (List.range 64) = List.range 32 ++ (List.range 32).map (32 + ·) := by rw [← List.range_add]
  rw [e, List.countP_append, List.countP_map]
  unfold Dom.size pop
  have h1 : (List.range 32).countP x.has = (List.range 32).countP x.a.testBit := List.countP_congr fun i hi => by
    have : i < 32 := by simpa using hi
    simp [Dom.has, this]
  have h2 : (List.range 32).countP (x.has ∘ (32 + ·)) = (List.range 32).countP x.b.testBit := List.countP_congr fun i hi => by
    have h2 : ¬ 32 + i < 32 := by omega
    simp [Dom.has, h2, Function.comp]
  rw [h1, h2]
theorem size_ref {x : Dom} (h : DG x) : x.size = (x.vals x.width).length := by
  have hw := h.ok.w
  obtain ⟨r, hr⟩ : ∃ r, 64 = x.width + r := ⟨64 - x.width, by omega⟩
  rw [size_has h.ok, hr, List.range_add, List.countP_append, List.countP_map]
  have : (List.range r).countP (x.has ∘ (x.width + ·)) = 0 := by
    rw [List.countP_eq_zero]
    intro i hi
    have : i < r := by simpa using hi
    simp [h.full (x.width + i) (by omega) (by omega)]
  rw [this, Dom.vals, List.length_map, List.countP_eq_length_filter, Nat.add_zero]
theorem mem_vals {x : Dom} {v : Int} : v ∈ x.vals x.width ↔ ∃ i : Nat, i < x.width ∧ x.has i = true ∧ v = x.from' + i := by
  simp only [Dom.vals, List.mem_map, List.mem_filter, List.mem_range]
  constructor
  · rintro ⟨i, ⟨a, b⟩, c⟩; exact ⟨i, a, b, c.symm⟩
  · rintro ⟨i, a, b, c⟩; exact ⟨i, ⟨a, b⟩, c.symm⟩
theorem has_ref (s : List Dom) (x v : Int) : hasB s x v = decide (v ∈ rowR (refD s) x) := by
  rw [row_ref]
  unfold hasB valsB isB
  cases hx : s[x.toNat]? with
  | none => simp
  | some d =>
    have hlt := lt_of_get hx
    by_cases h0 : 0 ≤ x
    · have hl : x < s.length := by omega
      rw [Bool.eq_iff_iff]
      simp only [h0, hl, decide_true, Bool.true_and, if_true, Option.map_some, Option.getD_some, decide_eq_true_eq, Bool.and_eq_true, mem_vals]
      constructor
      · rintro ⟨⟨a, b⟩, c⟩; exact ⟨(v - d.from').toNat, by omega, c, by omega⟩
      · rintro ⟨i, a, b, c⟩
        have : (v - d.from').toNat = i := by omega
        exact ⟨⟨by omega, by omega⟩, by rw [this]; exact b⟩
    · simp [h0]
end Go.Abs.G


namespace Go.Abs.G
set_option linter.unusedVariables false
set_option linter.unusedSimpArgs false

theorem vals_range {x : Dom} (h : ∀ i, i < x.width → x.has i = true) : x.vals x.width = (List.range x.width).map fun (i : Nat) => x.from' + (i : Int) := by
  unfold Dom.vals
  rw [List.filter_eq_self.2 (fun i hi => h i (by simpa using hi))]
theorem new_ref (m : Model) : refD (domsOf m) = refOf m := by
  unfold domsOf refOf
  by_cases hz : (checkB m).2 = 0
  · have hR : Right m := right_iff.1 (by simp [rightB, hz])
    rw [if_pos hz, if_pos hz]
    unfold refD
    rw [List.map_map]
    refine List.map_congr_left fun v hv => ?_
    obtain ⟨i, hi⟩ := List.getElem?_of_mem hv
    have hvo := VarOk.of (hR.var i v hi)
    simp only [Function.comp]
    rw [vals_range (fun i hi => domOf_has hvo hi), domOf_from, domOf_width]
    rfl
  · rw [if_neg hz, if_neg hz]; rfl

theorem none_has {d : Dom} (h : d.none = true) (i : Nat) : d.has i = false := by
  simp [Dom.none] at h
  unfold Dom.has
  rw [h.1, h.2]
  split <;> simp
theorem has_eq {d e : Dom} (hd : d.ok) (he : e.ok) (h : ∀ i, i < 64 → d.has i = e.has i) : d.a = e.a ∧ d.b = e.b := by
  constructor
  · refine Nat.eq_of_testBit_eq fun i => ?_
    by_cases hi : i < 32
    · have := h i (by omega); simpa [Dom.has, hi] using this
    · rw [Nat.testBit_lt_two_pow (Nat.lt_of_lt_of_le (show d.a < 2 ^ 32 from hd.a) (Nat.pow_le_pow_right (by omega) (by omega : 32 ≤ i))), Nat.testBit_lt_two_pow (Nat.lt_of_lt_of_le (show e.a < 2 ^ 32 from he.a) (Nat.pow_le_pow_right (by omega) (by omega : 32 ≤ i)))]
  · refine Nat.eq_of_testBit_eq fun i => ?_
    by_cases hi : i < 32
    · have := h (32 + i) (by omega); have h2 : ¬ 32 + i < 32 := by omega
      simpa [Dom.has, h2] using this
    · rw [Nat.testBit_lt_two_pow (Nat.lt_of_lt_of_le (show d.b < 2 ^ 32 from hd.b) (Nat.pow_le_pow_right (by omega) (by omega : 32 ≤ i))), Nat.testBit_lt_two_pow (Nat.lt_of_lt_of_le (show e.b < 2 ^ 32 from he.b) (Nat.pow_le_pow_right (by omega) (by omega : 32 ≤ i)))]

section
variable {d : Dom} (h : DG d) (k v : Int)
include h
theorem cut_has (i : Nat) (hi : i < 64) : (cutTo k v d d.width).has i = (d.has i && !(decide (i < d.width) && goesB k v (d.from' + i))) := cutTo_has k v h.ok d.width h.ok.w i hi
theorem cut_vals : (cutTo k v d d.width).vals (cutTo k v d d.width).width = leftR k v (d.vals d.width) := by
  have hw := h.ok.w
  rw [cutTo_width]
  unfold Dom.vals leftR
  rw [List.filter_map, List.filter_filter, cutTo_from]
  congr 1
  refine List.filter_congr fun i hi => ?_
  have hi : i < d.width := by simpa using hi
  rw [cut_has h k v i (by omega)]
  simp [hi, Function.comp, Bool.and_comm]
theorem cut_none : (cutTo k v d d.width).none = decide (leftR k v (d.vals d.width) = []) := by
  have hw := h.ok.w
  have hok := cutTo_ok k v h.ok d.width
  rw [← cut_vals h k v, Bool.eq_iff_iff, decide_eq_true_eq]
  constructor
  · intro hn
    refine List.eq_nil_iff_forall_not_mem.2 fun u hu => ?_
    obtain ⟨i, a, b, c⟩ := mem_vals.1 hu
    rw [none_has hn] at b; cases b
  · intro he
    have : (cutTo k v d d.width).a = 0 ∧ (cutTo k v d d.width).b = 0 := has_eq (e := ⟨d.from', d.width, 0, 0⟩) hok ⟨h.ok.f, h.ok.w, by simp, by simp⟩ fun i hi => by
      have hz : (⟨d.from', d.width, 0, 0⟩ : Dom).has i = false := none_has rfl i
      rw [hz]
      by_cases hiw : i < d.width
      · cases hb : (cutTo k v d d.width).has i
        · rfl
        · have := mem_vals.2 ⟨i, by rw [cutTo_width]; exact hiw, hb, rfl⟩
          rw [he] at this; cases this
      · rw [cut_has h k v i hi, h.full i hi (by omega)]; rfl
    simp [Dom.none, this]
theorem cut_same : (!(cutTo k v d d.width).same d) = decide ((leftR k v (d.vals d.width)).length < (d.vals d.width).length) := by
  have hw := h.ok.w
  have hok := cutTo_ok k v h.ok d.width
  cases hs : (cutTo k v d d.width).same d
  · symm
    simp only [Bool.not_false, decide_eq_true_eq]
    refine Nat.lt_of_le_of_ne (leftR_len k v _) fun e => ?_
    have hall : leftR k v (d.vals d.width) = d.vals d.width := List.filter_sublist.eq_of_length e
    have := has_eq hok h.ok fun i hi => by
      by_cases hiw : i < d.width
      · rw [cut_has h k v i hi]
        cases hb : d.has i
        · rfl
        · have hm : d.from' + (i : Int) ∈ d.vals d.width := mem_vals.2 ⟨i, hiw, hb, rfl⟩
          rw [← hall] at hm
          have := (List.mem_filter.1 hm).2
          simp at this
          simp [this]
      · rw [cut_has h k v i hi, h.full i hi (by omega)]; rfl
    simp [Dom.same, this] at hs
  · symm
    simp only [Bool.not_true, decide_eq_false_iff_not]
    simp [Dom.same] at hs
    have : leftR k v (d.vals d.width) = d.vals d.width := by
      rw [← cut_vals h k v]
      refine vals_eq (cutTo_from k v d d.width) (cutTo_width k v d d.width) fun i _ => ?_
      unfold Dom.has; rw [hs.1, hs.2]
    rw [this]; omega
theorem cut_DG (hn : leftR k v (d.vals d.width) ≠ []) : DG (cutTo k v d d.width) := by
  refine ⟨cutTo_ok k v h.ok d.width, fun i hi hw => ?_, ?_⟩
  · rw [cutTo_width] at hw
    rw [cut_has h k v i hi, h.full i hi hw]; rfl
  · rw [cut_none h k v]; simpa using hn
end

theorem cut_ref {s : List Dom} (hs : ∀ d ∈ s, DG d) (k x v : Int) : cutR (refD s) k x v = (refD (cutS s k x v).1, (cutS s k x v).2) ∧ ∀ d ∈ (cutS s k x v).1, DG d := by
  unfold cutR cutS
  rw [is_ref]
  by_cases hb : isB s x = true
  · have hb2 := hb
    simp [isB] at hb2
    have hlt : x.toNat < s.length := by omega
    obtain ⟨d, hd⟩ : ∃ d, s[x.toNat]? = some d := ⟨_, List.getElem?_eq_getElem hlt⟩
    have hdg := hs d (List.mem_of_getElem? hd)
    have hrow : rowR (refD s) x = d.vals d.width := by
      rw [row_ref]; unfold valsB; rw [if_pos hb, hd]; rfl
    rw [hrow, hb, if_neg (by simp), if_pos rfl, hd]
    simp only [cut_none hdg k v, cut_same hdg k v, decide_eq_true_eq]
    by_cases hn : leftR k v (d.vals d.width) = []
    · rw [if_pos hn, if_pos hn]
      exact ⟨rfl, hs⟩
    · rw [if_neg hn, if_neg hn]
      refine ⟨?_, fun e he => ?_⟩
      · simp only [refD, List.map_set, cut_vals hdg k v]
      · rcases List.mem_or_eq_of_mem_set he with h | h
        · exact hs e h
        · rw [h]; exact cut_DG hdg k v hn
  · have hf : isB s x = false := by simpa using hb
    rw [hf]
    simp
    exact hs
theorem DG.dok {s : List Dom} (hn : s.length ≤ 64) (hs : ∀ d ∈ s, DG d) : DOk (refD s) := by
  refine ⟨by rw [refD_len]; exact hn, fun l hl => ?_⟩
  simp only [refD, List.mem_map] at hl
  obtain ⟨d, hd, rfl⟩ := hl
  have hg := hs d hd
  refine ⟨?_, Nat.le_trans (vals_len d d.width) hg.ok.w⟩
  rw [← size_ref hg]
  refine Nat.pos_of_ne_zero fun h0 => ?_
  rw [size_has hg.ok, List.countP_eq_zero] at h0
  have := has_eq (e := ⟨d.from', d.width, 0, 0⟩) hg.ok ⟨hg.ok.f, hg.ok.w, by simp, by simp⟩ fun i hi => by
    rw [show (⟨d.from', d.width, 0, 0⟩ : Dom).has i = false from none_has rfl i]
    simpa using h0 i (by simpa using hi)
  have hne := hg.ne
  simp [Dom.none, this] at hne
end Go.Abs.G


namespace Go.Abs.G
set_option linter.unusedVariables false
set_option linter.unusedSimpArgs false

theorem domOf_DG {v : Var} (h : VarOk v) : DG (domOf v) := by
  have hok := dom0_ok h
  refine ⟨fillTo_ok hok _, fun i hi hw => ?_, none_of_has (domOf_has h (i := 0) ?_)⟩
  · rw [domOf_width] at hw
    unfold domOf
    rw [fillTo_has hok (dom0 v).width hok.w i hi]
    have hz : (dom0 v).has i = false := none_has rfl i
    have : ¬ i < (dom0 v).width := by simp only [dom0]; omega
    rw [hz]; simp [this]
  · rw [domOf_width]
    obtain ⟨a, b, c, e⟩ := h
    omega
theorem doms_DG (m : Model) : ∀ d ∈ domsOf m, DG d := by
  unfold domsOf
  by_cases hz : (checkB m).2 = 0
  · have hR : Right m := right_iff.1 (by simp [rightB, hz])
    rw [if_pos hz]
    intro d hd
    simp only [List.mem_map] at hd
    obtain ⟨v, hv, rfl⟩ := hd
    obtain ⟨i, hi⟩ := List.getElem?_of_mem hv
    exact domOf_DG (VarOk.of (hR.var i v hi))
  · rw [if_neg hz]; intro d hd; cases hd
theorem doms_len (m : Model) : (domsOf m).length ≤ 64 := by
  unfold domsOf
  by_cases hz : (checkB m).2 = 0
  · have hR : Right m := right_iff.1 (by simp [rightB, hz])
    have := hR.nv
    rw [if_pos hz, List.length_map]; omega
  · rw [if_neg hz]; simp

/-- Both stores, with all marks, tell the same. -/
structure Two (s : List Dom) (ms : List (List Dom)) : Prop where
  n : s.length ≤ 64
  k : ms.length ≤ 1000000
  d : ∀ d ∈ s, DG d
  m : ∀ L ∈ ms, L.length ≤ 64 ∧ ∀ d ∈ L, DG d
theorem Two.sok {s : List Dom} {ms : List (List Dom)} (h : Two s ms) : SOk s ms := ⟨h.n, h.k, fun d hd => (h.d d hd).ok⟩
theorem Two.rok {s : List Dom} {ms : List (List Dom)} (h : Two s ms) : ROk (refD s) (ms.map refD) := ⟨DG.dok h.n h.d, by simpa using h.k, fun e he => by
  simp only [List.mem_map] at he
  obtain ⟨L, hL, rfl⟩ := he
  exact DG.dok (h.m L hL).1 (h.m L hL).2⟩
theorem Two.new (m : Model) : Two (domsOf m) [] := ⟨doms_len m, by simp, doms_DG m, fun L hL => by cases hL⟩
theorem Two.cut {s : List Dom} {ms : List (List Dom)} (h : Two s ms) (k x v : Int) : Two (cutS s k x v).1 ms := ⟨by rw [cutS_len]; exact h.n, h.k, (cut_ref h.d k x v).2, h.m⟩
theorem Two.mark {s : List Dom} {ms : List (List Dom)} (h : Two s ms) (hk : ms.length + 1 ≤ 1000000) : Two s (ms ++ [s]) := ⟨h.n, by simpa using hk, h.d, fun L hL => by
  rcases List.mem_append.1 hL with hL | hL
  · exact h.m L hL
  · rw [List.mem_singleton.1 hL]; exact ⟨h.n, h.d⟩⟩
theorem Two.back {s : List Dom} {ms : List (List Dom)} (h : Two s ms) {j : Nat} (hj : j < ms.length) : Two ms[j] (ms.take j) := ⟨(h.m _ (List.getElem_mem hj)).1, Nat.le_trans (by simp; omega) h.k, (h.m _ (List.getElem_mem hj)).2, fun L hL => h.m L (List.mem_of_mem_take hL)⟩
end Go.Abs.G


/- Both stores under one name each, with their calls. -/
namespace Go.Abs.G
open Go.Proofs
set_option linter.unusedVariables false
set_option linter.unusedSimpArgs false

theorem vals_ne {s : List Dom} (h : ∀ d ∈ s, DG d) {x : Int} (hx : isB s x = true) : valsB s x ≠ [] := by
  unfold valsB
  rw [if_pos hx]
  have hl : 0 ≤ x ∧ x < s.length := by simpa [isB] using hx
  obtain ⟨i, rfl⟩ : ∃ i : Nat, x = i := ⟨x.toNat, by omega⟩
  have hi : i < s.length := by omega
  have hd := h _ (List.getElem_mem hi)
  simp only [Int.toNat_natCast, List.getElem?_eq_getElem hi, Option.map_some, Option.getD_some]
  intro e
  have hn := hd.ne
  have hz : ∀ j, j < 64 → (s[i]).has j = false := fun j hj => by
    by_cases hw : j < (s[i]).width
    · cases hh : (s[i]).has j
      · rfl
      · have : (s[i]).from' + (j : Int) ∈ (s[i]).vals (s[i]).width := mem_vals.2 ⟨j, hw, hh, rfl⟩
        rw [e] at this; cases this
    · exact hd.full j hj (by omega)
  have ha : (s[i]).a = 0 := Nat.eq_of_testBit_eq fun j => by
    by_cases hj : j < 32
    · have := hz j (by omega); simpa [Dom.has, hj] using this
    · rw [Nat.zero_testBit]; exact Nat.testBit_lt_two_pow (Nat.lt_of_lt_of_le hd.ok.a (by
        have : (2 : Nat) ^ 32 ≤ 2 ^ j := Nat.pow_le_pow_right (by omega) (by omega)
        simpa using this))
  have hb : (s[i]).b = 0 := Nat.eq_of_testBit_eq fun j => by
    by_cases hj : j < 32
    · have h2 : ¬ j + 32 < 32 := by omega
      have := hz (j + 32) (by omega); simpa [Dom.has, h2] using this
    · rw [Nat.zero_testBit]; exact Nat.testBit_lt_two_pow (Nat.lt_of_lt_of_le hd.ok.b (by
        have : (2 : Nat) ^ 32 ≤ 2 ^ j := Nat.pow_le_pow_right (by omega) (by omega)
        simpa using this))
  simp [Dom.none, ha, hb] at hn
theorem vals_no {s : List Dom} {x : Int} (hx : isB s x = false) : valsB s x = [] := by simp [valsB, hx]
theorem vals_at {s : List Dom} {i : Nat} (hi : i < s.length) : valsB s i = (s[i]).vals (s[i]).width := by
  have : isB s i = true := by simp [isB, hi]
  simp [valsB, this, hi]
theorem vals_mem {s : List Dom} (h : ∀ d ∈ s, DG d) {x v : Int} (hv : v ∈ valsB s x) : isB s x = true ∧ -1000000000 ≤ v ∧ v < 1000000064 := by
  cases hx : isB s x
  · rw [vals_no hx] at hv; cases hv
  · have hl : 0 ≤ x ∧ x < s.length := by simpa [isB] using hx
    obtain ⟨i, rfl⟩ : ∃ i : Nat, x = i := ⟨x.toNat, by omega⟩
    have hi : i < s.length := by omega
    have hd := h _ (List.getElem_mem hi)
    rw [vals_at hi] at hv
    obtain ⟨j, hj, _, rfl⟩ := mem_vals.1 hv
    have := hd.ok.f; have := hd.ok.w
    exact ⟨rfl, by omega, by omega⟩
theorem valsB_small {s : List Dom} (h : ∀ d ∈ s, DG d) (x : Int) : (valsB s x).length ≤ 64 := by
  cases hx : isB s x
  · rw [vals_no hx]; simp
  · have hl : 0 ≤ x ∧ x < s.length := by simpa [isB] using hx
    obtain ⟨i, rfl⟩ : ∃ i : Nat, x = i := ⟨x.toNat, by omega⟩
    have hi : i < s.length := by omega
    have hd := h _ (List.getElem_mem hi)
    rw [vals_at hi, Dom.vals, List.length_map]
    exact Nat.le_trans (List.length_filter_le _ _) (by simpa using hd.ok.w)
/-- Rising: no value twice. -/
theorem vals_up (d : Dom) (n : Nat) : (d.vals n).Pairwise (· < ·) := by
  unfold Dom.vals
  rw [List.pairwise_map]
  refine List.Pairwise.imp (R := fun (a b : Nat) => a < b) (fun h => by omega) ?_
  exact List.Pairwise.filter _ List.pairwise_lt_range
theorem valsB_up (s : List Dom) (x : Int) : (valsB s x).Pairwise (· < ·) := by
  unfold valsB
  split
  · cases s[x.toNat]? <;> simp [vals_up]
  · exact .nil
def loB (s : List Dom) (x : Int) : Int := (valsB s x).headD 0
def hiB (s : List Dom) (x : Int) : Int := (valsB s x).getLastD 0
theorem head_mem {l : List Int} (h : l ≠ []) : l.headD 0 ∈ l := by cases l with | nil => exact (h rfl).elim | cons a l => simp
theorem last_mem {l : List Int} (h : l ≠ []) : l.getLastD 0 ∈ l := by
  rw [List.getLastD_eq_getLast?, List.getLast?_eq_some_getLast h]; exact List.getLast_mem h
theorem lo_range {s : List Dom} (h : ∀ d ∈ s, DG d) (x : Int) : -1000000000 ≤ loB s x ∧ loB s x < 1000000064 := by
  by_cases e : valsB s x = []
  · simp [loB, e]
  · exact (vals_mem h (head_mem e)).2
theorem hi_range {s : List Dom} (h : ∀ d ∈ s, DG d) (x : Int) : -1000000000 ≤ hiB s x ∧ hiB s x < 1000000064 := by
  by_cases e : valsB s x = []
  · simp [hiB, e]
  · exact (vals_mem h (last_mem e)).2
/-- Fewer than 64 between the ends. -/
theorem vals_span {s : List Dom} (h : ∀ d ∈ s, DG d) (x : Int) : hiB s x - loB s x < 64 := by
  by_cases e : valsB s x = []
  · simp [loB, hiB, e]
  · have h1 := head_mem e; have h2 := last_mem e
    obtain ⟨hx, _⟩ := vals_mem h h1
    have hl : 0 ≤ x ∧ x < s.length := by simpa [isB] using hx
    obtain ⟨i, rfl⟩ : ∃ i : Nat, x = i := ⟨x.toNat, by omega⟩
    have hi : i < s.length := by omega
    have hd := (h _ (List.getElem_mem hi)).ok.w
    change hiB s i ∈ _ at h2; change loB s i ∈ _ at h1
    rw [vals_at hi] at h1 h2
    obtain ⟨j, hj, _, e1⟩ := mem_vals.1 h1
    obtain ⟨k, hk, _, e2⟩ := mem_vals.1 h2
    omega

/-- The program's store, the document's: each one object. -/
def ST (s : List Dom) (ms : List (List Dom)) : O := St1 s (mT ms)
def RT (s : List Dom) (ms : List (List Dom)) : O := RR (refD s) (ms.map refD)
theorem ST_nres (s : List Dom) (ms : List (List Dom)) : ST s ms ≠ .res := fun e => by cases e
theorem RT_nres (s : List Dom) (ms : List (List Dom)) : RT s ms ≠ .res := fun e => by cases e
theorem ST_clo' (s : List Dom) (ms : List (List Dom)) : (ST s ms).clo := St1_clo s ms
theorem RT_clo' (s : List Dom) (ms : List (List Dom)) : (RT s ms).clo := RR_clo _ _
section
variable (s : List Dom) (ms : List (List Dom))
@[simp high] theorem ST_isMem : (ST s ms).isMem = false := rfl
@[simp high] theorem RT_isMem : (RT s ms).isMem = false := rfl
@[simp high] theorem ST_isTree : (ST s ms).isTree = true := rfl
@[simp high] theorem RT_isTree : (RT s ms).isTree = true := rfl
@[simp high] theorem ST_trows : (ST s ms).trows = 1 := rfl
@[simp high] theorem RT_trows : (RT s ms).trows = 1 := rfl
@[simp high] theorem ST_refs : (ST s ms).refs = [] := rfl
@[simp high] theorem RT_refs : (RT s ms).refs = [] := rfl
@[simp high] theorem ST_tot : (ST s ms).hasTot 1 = True := by simp [ST, St1, O.hasTot]
@[simp high] theorem RT_tot : (RT s ms).hasTot 1 = True := by simp [RT, RR, R1, O.hasTot]
@[simp] theorem ST_nres' : (ST s ms = .res) = False := eq_false (ST_nres s ms)
@[simp] theorem RT_nres' : (RT s ms = .res) = False := eq_false (RT_nres s ms)
@[simp] theorem ST_clo : (ST s ms).clo = True := eq_true (ST_clo' s ms)
@[simp] theorem RT_clo : (RT s ms).clo = True := eq_true (RT_clo' s ms)
@[simp high] theorem ST_ren (f : Nat → Nat) : O.ren f (ST s ms) = ST s ms := (ST_clo' s ms).ren f
@[simp high] theorem RT_ren (f : Nat → Nat) : O.ren f (RT s ms) = RT s ms := (RT_clo' s ms).ren f
@[simp high] theorem ST_lim (n : Nat) : limO n (ST s ms) = ST s ms := by simp [ST]
@[simp high] theorem RT_lim (n : Nat) : limO n (RT s ms) = RT s ms := by simp [RT, RR, R1, limO, O.refs]
end

@[simp high] theorem ren_vInts (f : Nat → Nat) (l : List Int) : V.ren f (vInts l) = vInts l := by
  simp only [vInts, V.ren]
section
variable {s : List Dom} {ms : List (List Dom)} (h : Two s ms)
include h
theorem sizeT (x : Int) : DC Tryz.prog dom_Store_Size.id [.ptr 0 1 0 0, V.i x] [ST s ms] fun r H => r = V.i (valsB s x).length ∧ H = [ST s ms] := by
  refine DC.to (sizeP h.sok x) ⟨?_, rfl⟩
  cases hx : isB s x
  · rw [vals_no hx]; rfl
  · have hl : 0 ≤ x ∧ x < s.length := by simpa [isB] using hx
    obtain ⟨i, rfl⟩ : ∃ i : Nat, x = i := ⟨x.toNat, by omega⟩
    have hi : i < s.length := by omega
    rw [vals_at hi, ← size_ref (h.d _ (List.getElem_mem hi))]
    simp [hi]
theorem hasT (x v : Int) (hv : I64 v) : DC Tryz.prog dom_Store_Has.id [.ptr 0 1 0 0, V.i x, V.i v] [ST s ms] fun r H => r = .bool (decide (v ∈ valsB s x)) ∧ H = [ST s ms] := by
  have := hasP h.sok x v hv
  rw [has_ref, row_ref] at this; exact this
theorem valuesT (x : Int) : DC Tryz.prog dom_Store_Values.id [.ptr 0 1 0 0, V.i x] [ST s ms] fun r H => r = vInts (valsB s x) ∧ H = [ST s ms] := valuesP h.sok x
theorem openT : DC Tryz.prog dom_Store_Open.id [.ptr 0 1 0 0] [ST s ms] fun r H => r = vInts (openB s s.length) ∧ H = [ST s ms] := openP h.sok
theorem loT (x : Int) : DC Tryz.prog dom_Store_Lo.id [.ptr 0 1 0 0, V.i x] [ST s ms] fun r H => r = V.i (loB s x) ∧ H = [ST s ms] := by
  refine DC.to (loP h.sok x fun hx => vals_ne h.d hx) ⟨?_, rfl⟩
  cases hx : isB s x
  · simp [loB, vals_no hx]
  · simp [loB]
theorem hiT (x : Int) : DC Tryz.prog dom_Store_Hi.id [.ptr 0 1 0 0, V.i x] [ST s ms] fun r H => r = V.i (hiB s x) ∧ H = [ST s ms] := by
  refine DC.to (hiP h.sok x fun hx => vals_ne h.d hx) ⟨?_, rfl⟩
  cases hx : isB s x
  · simp [hiB, vals_no hx]
  · simp [hiB]
theorem cutT (k x v : Int) : DC Tryz.prog dom_Store_Cut.id [.ptr 0 1 0 0, .agg [V.i k, V.i x, V.i v]] [ST s ms] fun r H => r = .tup [.bool (cutS s k x v).2.1, .bool (cutS s k x v).2.2] ∧ H = [ST (cutS s k x v).1 ms] := cutP h.sok k x v
theorem copyT : DC Tryz.prog dom_Store_Copy.id [.ptr 0 1 0 0] [ST s ms] (fun r H => r = .ptr 1 1 0 0 ∧ H = [ST s ms, ST s ms]) := copy_packed h.n h.k fun L hL => (h.m L hL).1
theorem cutZ (k x v : Int) : DC Tryz.prog hallmarkref11_Store_Cut.id [.ptr 0 1 0 0, .agg [V.i k, V.i x, V.i v]] [RT s ms] fun r H => r = .tup [.bool (cutS s k x v).2.1, .bool (cutS s k x v).2.2] ∧ H = [RT (cutS s k x v).1 ms] := by
  have := cutRP h.rok k x v
  rw [(cut_ref h.d k x v).1] at this; exact this
end
theorem newT (m : Model) (hm : okModel m) : DC Tryz.prog dom_New.id [.agg m.cells] [] (fun r H => r = .ptr 0 1 0 0 ∧ H = [ST (domsOf m) []]) := newP1 m hm
theorem newZ (m : Model) (hm : okModel m) : DC Tryz.prog hallmarkref11_New.id [.agg m.cells] [] (fun r H => r = .ptr 0 1 0 0 ∧ H = [RT (domsOf m) []]) := by
  have := newRP m hm
  rw [← new_ref] at this; exact this
end Go.Abs.G


/- What a cut makes of the values; what is open. -/
namespace Go.Abs.G
open Go.Proofs
set_option linter.unusedVariables false

theorem isB_iff {s : List Dom} {x : Int} : isB s x = true ↔ 0 ≤ x ∧ x < s.length := by simp [isB]
theorem cut_bools {s : List Dom} (h : ∀ d ∈ s, DG d) (k x v : Int) : (cutS s k x v).2 = if isB s x = false then (false, true) else if leftR k v (valsB s x) = [] then (false, false) else (decide ((leftR k v (valsB s x)).length < (valsB s x).length), true) := by
  have := (cut_ref h k x v).1
  have e : (cutR (refD s) k x v).2 = (cutS s k x v).2 := by rw [this]
  rw [← e, cutR, is_ref, row_ref]
  split
  · rfl
  · split <;> rfl
theorem rowR_set {d : List (List Int)} {x y : Int} (l : List Int) (hx : isR d x = true) : rowR (d.set x.toNat l) y = if y = x then l else rowR d y := by
  have hb : 0 ≤ x ∧ x < d.length := by simpa [isR] using hx
  have e1 : isR (d.set x.toNat l) y = isR d y := by simp [isR]
  unfold rowR
  rw [e1]
  by_cases hy : y = x
  · subst hy
    rw [if_pos hx, if_pos rfl, List.getElem?_set_self (by omega)]; rfl
  · rw [if_neg hy]
    by_cases hi : isR d y = true
    · rw [if_pos hi, if_pos hi]
      have : 0 ≤ y ∧ y < d.length := by simpa [isR] using hi
      rw [List.getElem?_set_ne (by omega)]
    · rw [if_neg hi, if_neg hi]
theorem cut_rows {s : List Dom} (h : ∀ d ∈ s, DG d) (k x v y : Int) : valsB (cutS s k x v).1 y = if y = x ∧ leftR k v (valsB s x) ≠ [] then leftR k v (valsB s x) else valsB s y := by
  have := (cut_ref h k x v).1
  have e : refD (cutS s k x v).1 = (cutR (refD s) k x v).1 := by rw [this]
  rw [← row_ref (cutS s k x v).1, ← row_ref s x, ← row_ref s y, e, cutR]
  by_cases hx : isR (refD s) x = true
  · rw [if_neg (by rw [hx]; simp)]
    by_cases hn : leftR k v (rowR (refD s) x) = []
    · rw [if_pos hn, if_neg (fun e => e.2 hn)]
    · rw [if_neg hn]
      show rowR ((refD s).set x.toNat _) y = _
      rw [rowR_set _ hx]
      by_cases hy : y = x
      · rw [if_pos hy, if_pos ⟨hy, hn⟩]
      · rw [if_neg hy, if_neg (fun e => hy e.1)]
  · have hf : isR (refD s) x = false := by simpa using hx
    rw [if_pos hf]
    have : rowR (refD s) x = [] := by simp [rowR, hf]
    rw [if_neg (fun e => e.2 (by rw [this]; rfl))]
theorem leftR_mem {k v w : Int} {l : List Int} : w ∈ leftR k v l ↔ w ∈ l ∧ goesB k v w = false := by simp [leftR]

theorem open_mem {s : List Dom} (h : ∀ d ∈ s, DG d) {x : Int} : x ∈ openB s s.length ↔ isB s x = true ∧ 1 < (valsB s x).length := by
  unfold openB
  simp only [List.mem_map, List.mem_filter, List.mem_range, decide_eq_true_eq]
  constructor
  · rintro ⟨i, ⟨hi, h1⟩, rfl⟩
    refine ⟨isB_iff.2 ⟨by omega, by omega⟩, ?_⟩
    rw [vals_at hi, ← size_ref (h _ (List.getElem_mem hi))]
    simpa [List.getElem?_eq_getElem hi] using h1
  · rintro ⟨hx, h1⟩
    obtain ⟨h0, h2⟩ := isB_iff.1 hx
    obtain ⟨i, rfl⟩ : ∃ i : Nat, x = i := ⟨x.toNat, by omega⟩
    have hi : i < s.length := by omega
    refine ⟨i, ⟨hi, ?_⟩, rfl⟩
    rw [vals_at hi, ← size_ref (h _ (List.getElem_mem hi))] at h1
    simpa [List.getElem?_eq_getElem hi] using h1
theorem lo_lt_hi {s : List Dom} {x : Int} (h1 : 1 < (valsB s x).length) : loB s x < hiB s x := by
  have hp := valsB_up s x
  unfold loB hiB
  generalize valsB s x = l at *
  have hn : l ≠ [] := fun e => by subst e; simp at h1
  rw [List.getLastD_eq_getLast?, List.getLast?_eq_some_getLast hn, Option.getD_some, List.getLast_eq_getElem]
  have : l.headD 0 = l[0] := by cases l with | nil => exact (hn rfl).elim | cons a l => rfl
  rw [this]
  exact List.pairwise_iff_getElem.1 hp 0 (l.length - 1) (by omega) (by omega) (by omega)
theorem open_small' (s : List Dom) : (openB s s.length).length ≤ s.length := by
  unfold openB; rw [List.length_map]; exact Nat.le_trans (List.length_filter_le _ _) (by simp)

/-- A split: variable, value, whether there is one. -/
def pickB (s : List Dom) (n : Int) : Int × Int × Bool :=
  if openB s s.length = [] then (0, 0, false) else
    let o := openB s s.length
    let x := o.getD (n % o.length).toNat 0
    (x, loB s x + 1 + (n / o.length) % (hiB s x - loB s x), true)
theorem pick_open {s : List Dom} (h : ∀ d ∈ s, DG d) (hn : openB s s.length ≠ []) (n : Int) :
    (n % (openB s s.length).length).toNat < (openB s s.length).length ∧ (openB s s.length).getD (n % (openB s s.length).length).toNat 0 ∈ openB s s.length := by
  have hl : 0 < (openB s s.length).length := List.length_pos_iff.2 hn
  have h0 : 0 ≤ n % ((openB s s.length).length : Int) := Int.emod_nonneg _ (by omega)
  have h1 : n % ((openB s s.length).length : Int) < (openB s s.length).length := Int.emod_lt_of_pos _ (by omega)
  have h2 : (n % ((openB s s.length).length : Int)).toNat < (openB s s.length).length := by omega
  refine ⟨h2, ?_⟩
  rw [List.getD_eq_getElem?_getD, List.getElem?_eq_getElem h2]; exact List.getElem_mem h2
end Go.Abs.G

/- More calls as steps. -/
namespace Go.Abs
set_option linter.unusedVariables false
section
variable {P : Program} {k : St → Prop} {st : St} {d : Option Nat} {ap : List Nat} {f : FuncId} {xs : List Operand}
end
end Go.Abs

namespace Go.Abs.G
open Go.Proofs
set_option linter.unusedVariables false
set_option linter.unusedSimpArgs false

theorem tdiv_mod (n by' : Int) (hb : 0 < by') : (n.tmod by' < 0 → n.tdiv by' - 1 = n / by' ∧ n.tmod by' + by' = n % by') ∧ (¬ n.tmod by' < 0 → n.tdiv by' = n / by' ∧ n.tmod by' = n % by') := by
  have e1 := Int.mul_tdiv_add_tmod n by'
  have e2 := Int.mul_ediv_add_emod n by'
  have a1 := Int.emod_nonneg n (show by' ≠ 0 by omega)
  have a2 := Int.emod_lt_of_pos n hb
  have b1 := Int.tmod_lt_of_pos n hb
  have b2 : -by' < n.tmod by' := by
    have := Int.lt_tmod_of_pos n hb; omega
  have key : ∀ q r q' r' : Int, by' * q + r = by' * q' + r' → 0 ≤ r → r < by' → 0 ≤ r' → r' < by' → q = q' ∧ r = r' := by
    intro q r q' r' e c1 c2 c3 c4
    have : by' * (q - q') = r' - r := by rw [Int.mul_sub]; omega
    have hq : q - q' = 0 := by
      by_cases h0 : 0 < q - q'
      · have : by' * 1 ≤ by' * (q - q') := Int.mul_le_mul_of_nonneg_left (by omega) (by omega)
        omega
      · by_cases h1 : q - q' < 0
        · have : by' * (q - q') ≤ by' * (-1) := Int.mul_le_mul_of_nonneg_left (by omega) (by omega)
          omega
        · omega
    rw [hq] at this
    omega
  constructor
  · intro h
    exact key _ _ _ _ (by rw [Int.mul_sub]; omega) (by omega) (by omega) a1 a2
  · intro h
    exact key _ _ _ _ (by omega) (by omega) (by omega) a1 a2
theorem tmod_bound (n by' : Int) (hb : 0 < by') (hs : by' ≤ 4000000000) : -4000000000 < n.tmod by' ∧ n.tmod by' < 4000000000 := by
  have b1 := Int.tmod_lt_of_pos n hb
  have b2 := Int.lt_tmod_of_pos n hb
  omega
theorem tdiv_bound {n by' : Int} (hn : I64 n) (hb : 0 < by') (hs : by' ≤ 4000000000) : -9223372036854775808 ≤ n.tdiv by' ∧ n.tdiv by' ≤ 9223372036854775807 ∧ (n.tmod by' < 0 → -9223372036854775808 ≤ n.tdiv by' - 1) := by
  obtain ⟨h1, h2⟩ := hn
  have e := Int.mul_tdiv_add_tmod n by'
  have b1 := Int.tmod_lt_of_pos n hb
  have b2 := Int.lt_tmod_of_pos n hb
  obtain ⟨q, hq⟩ : ∃ q, q = n.tdiv by' := ⟨_, rfl⟩
  rw [← hq] at e ⊢
  by_cases h : by' = 1
  · subst h
    have : n.tmod 1 = 0 := by rw [Int.tmod_one]
    omega
  · have k1 : ∀ c, c ≤ q → by' * c ≤ by' * q := fun c hc => Int.mul_le_mul_of_nonneg_left hc (by omega)
    have k2 : ∀ c, q ≤ c → by' * q ≤ by' * c := fun c hc => Int.mul_le_mul_of_nonneg_left hc (by omega)
    have p1 : 0 ≤ q → q ≤ 9223372036854775807 := fun h0 => by
      by_cases c : q ≤ 4611686018427387904
      · omega
      · have := Int.mul_le_mul_of_nonneg_right (show 2 ≤ by' by omega) h0; omega
    have p2 : q < 0 → -9223372036854775807 ≤ q := fun h0 => by
      by_cases c : -4611686018427387905 ≤ q
      · omega
      · have := Int.mul_le_mul_of_nonneg_right (show 2 ≤ by' by omega) (show 0 ≤ -q by omega)
        rw [Int.mul_neg, Int.mul_neg] at this
        omega
    by_cases h0 : 0 ≤ q
    · have := p1 h0; exact ⟨by omega, by omega, fun _ => by omega⟩
    · have := p2 (by omega); exact ⟨by omega, by omega, fun _ => by omega⟩

theorem divided_spec (n by' : Int) (hn : I64 n) (hb : 0 < by') (hs : by' ≤ 4000000000) : Pf Tryz.prog branch_divided.id [V.i n, V.i by'] (.tup [V.i (n / by'), V.i (n % by')]) := by
  refine DC.of branch_divided.ok (by simp) ?_
  unfold branch_divided.ir
  obtain ⟨t1, t2⟩ := tdiv_mod n by' hb
  obtain ⟨q1, q2, q3⟩ := tdiv_bound hn hb hs
  obtain ⟨m1, m2⟩ := tmod_bound n by' hb hs
  have hne : ¬ by' = 0 := by omega
  have w1 : IntKind.i64.wrap (n.tdiv by') = n.tdiv by' := wrap64 (by omega) (by omega)
  have w2 : IntKind.i64.wrap (n.tmod by') = n.tmod by' := wrap64 (by omega) (by omega)
  by_cases h : n.tmod by' < 0
  · obtain ⟨e1, e2⟩ := t1 h
    have w3 : IntKind.i64.wrap (n.tdiv by' - 1) = n.tdiv by' - 1 := wrap64 (q3 h) (by omega)
    have w4 : IntKind.i64.wrap (n.tmod by' + by') = n.tmod by' + by' := wrap64 (by omega) (by omega)
    rw [e1] at w3; rw [e2] at w4
    simp -dsimp [hne, w1, w2, h, w3, w4, e1, e2, branch_divided.rs]
  · obtain ⟨e1, e2⟩ := t2 h
    rw [e1] at w1; rw [e2] at w2 h
    simp -dsimp [hne, w1, w2, h, e1, e2, branch_divided.rs]
theorem ediv_i64 {n by' : Int} (hn : I64 n) (hb : 0 < by') (hs : by' ≤ 4000000000) : I64 (n / by') := by
  obtain ⟨t1, t2⟩ := tdiv_mod n by' hb
  obtain ⟨q1, q2, q3⟩ := tdiv_bound hn hb hs
  by_cases h : n.tmod by' < 0
  · obtain ⟨e1, e2⟩ := t1 h
    have := q3 h
    exact ⟨by omega, by omega⟩
  · obtain ⟨e1, e2⟩ := t2 h
    exact ⟨by omega, by omega⟩
def pickV (p : Int × Int × Bool) : V := .tup [V.i p.1, V.i p.2.1, .bool p.2.2]

theorem pick_spec {s : List Dom} {ms : List (List Dom)} (hs : Two s ms) (n : Int) (hn : I64 n) :
    DC Tryz.prog branch_Pick.id [.ptr 0 1 0 0, V.i n] [ST s ms] (fun r H => r = pickV (pickB s n) ∧ H = [ST s ms]) := by
  refine DC.of branch_Pick.ok (by simp) ?_
  unfold branch_Pick.ir
  refine vc_cut (At [(0, .ptr 0 1 0 0), (1, V.i n)] [ST s ms]) (by simp -dsimp [At]) ?_
  try clear h
  rintro ⟨sl, hp, bs⟩ ⟨rfl, h⟩
  simp only [sls_cons, sls_one, sls_nil] at h
  refine vc_cut (At [(0, .ptr 0 1 0 0), (1, V.i n), (7, vInts (openB s s.length))] [ST s ms]) ?_ ?_
  · simp -dsimp [h]
    refine gcallm1 (openT hs) 0 (by simp -dsimp [h, addAll]) (by simp -dsimp [h]) (by simp) (by simp) (by simp) (by simp -dsimp [h, idx]) (by simp) ?_
    simp -dsimp [h, At]
  try clear h
  rintro ⟨sl, hp, bs⟩ ⟨rfl, h⟩
  simp only [sls_cons, sls_one, sls_nil] at h
  have hsm := open_small' s
  have h64 := hs.n
  by_cases he : openB s s.length = []
  · simp -dsimp [h, he, vInts, branch_Pick.rs, pickB, pickV]
  · have hl : 0 < (openB s s.length).length := List.length_pos_iff.2 he
    have hl' : ¬ ((openB s s.length).length : Int) = 0 := by omega
    obtain ⟨hlt', hmem⟩ := pick_open hs.d he n
    have he0 : 0 ≤ n % ((openB s s.length).length : Int) := Int.emod_nonneg _ (by omega)
    have hpk : pickB s n = ((openB s s.length).getD (n % (openB s s.length).length).toNat 0, loB s ((openB s s.length).getD (n % (openB s s.length).length).toNat 0) + 1 + (n / (openB s s.length).length) % (hiB s ((openB s s.length).getD (n % (openB s s.length).length).toNat 0) - loB s ((openB s s.length).getD (n % (openB s s.length).length).toNat 0)), true) := by simp [pickB, he]
    have he1 : n % ((openB s s.length).length : Int) < (openB s s.length).length := Int.emod_lt_of_pos _ (by omega)
    obtain ⟨x, hx⟩ : ∃ x, x = (openB s s.length).getD (n % (openB s s.length).length).toNat 0 := ⟨_, rfl⟩
    have hxe : (openB s s.length)[(n % (openB s s.length).length).toNat]? = some x := by rw [hx, List.getD_eq_getElem?_getD, List.getElem?_eq_getElem hlt']; rfl
    rw [← hx] at hpk hmem
    obtain ⟨hxi, hx1⟩ := (open_mem hs.d).1 hmem
    have hlh := lo_lt_hi hx1
    have hsp := vals_span hs.d x
    have r1 := lo_range hs.d x
    have r2 := hi_range hs.d x
    obtain ⟨L, hL⟩ : ∃ L, L = openB s s.length := ⟨_, rfl⟩
    clear hx hlt'
    rw [← hL] at h he hl hl' he0 he1 hpk hxe hsm
    have w1 : IntKind.i64.wrap (hiB s x - loB s x) = hiB s x - loB s x := by rw [wrap64] <;> omega
    have m0 := Int.emod_nonneg (n / (L.length : Int)) (show hiB s x - loB s x ≠ 0 by omega)
    have m1 := Int.emod_lt_of_pos (n / (L.length : Int)) (show 0 < hiB s x - loB s x by omega)
    have w2 : IntKind.i64.wrap (loB s x + 1) = loB s x + 1 := by rw [wrap64] <;> omega
    have w3 : IntKind.i64.wrap (loB s x + 1 + (n / (L.length : Int)) % (hiB s x - loB s x)) = loB s x + 1 + (n / (L.length : Int)) % (hiB s x - loB s x) := by rw [wrap64] <;> omega
    have hlt : (n % (L.length : Int)).toNat < L.length := by omega
    have hxg : ∀ hh, L[(n % (L.length : Int)).toNat]'hh = x := fun hh => by rw [List.getElem?_eq_getElem hh] at hxe; exact Option.some.inj hxe
    simp -dsimp [h, he, hl', vInts]
    refine gcall (divided_spec n L.length hn (by omega) (by omega)) (by simp -dsimp [h, vInts, he0, he1, hlt, hxg]) (by simp -dsimp [h, vInts, he0, he1, hlt, hxg]) ?_
    simp -dsimp [h, vInts, he0, he1, hlt, hxg]
    refine gcallm1 (hiT hs x) 0 (by simp -dsimp [h, addAll]) (by simp -dsimp [h]) (by simp) (by simp) (by simp) (by simp -dsimp [h, idx]) (by simp) ?_
    simp -dsimp [h, vInts, he0, he1, hlt, hxg]
    refine gcallm1 (loT hs x) 0 (by simp -dsimp [h, addAll]) (by simp -dsimp [h]) (by simp) (by simp) (by simp) (by simp -dsimp [h, idx]) (by simp) ?_
    simp -dsimp [h, vInts, he0, he1, hlt, hxg, w1]
    refine gcall (divided_spec (n / (L.length : Int)) (hiB s x - loB s x) (ediv_i64 hn (by omega) (by omega)) (by omega) (by omega)) (by simp -dsimp [h, vInts, he0, he1, hlt, hxg, w1]) (by simp -dsimp [h, vInts, he0, he1, hlt, hxg, w1]) ?_
    simp -dsimp [h, vInts, he0, he1, hlt, hxg, w1]
    refine gcallm1 (loT hs x) 0 (by simp -dsimp [h, addAll]) (by simp -dsimp [h]) (by simp) (by simp) (by simp) (by simp -dsimp [h, idx]) (by simp) ?_
    simp -dsimp [h, branch_Pick.rs, w2, w3, hpk, pickV]
end Go.Abs.G

namespace Go.Abs.G
open Go.Proofs
set_option linter.unusedVariables false
set_option linter.unusedSimpArgs false

def okCut (c : DCut) : Prop := I64 c.k ∧ I64 c.x ∧ I64 c.v
def zCuts (l : List DCut) : Prop := l.length ≤ maxLen ∧ l.length ≤ maxS ∧ ∀ c ∈ l, okCut c
structure CTypes (P : Program) (tInt tCut tCuts : TypeId) : Prop where
  bytes : 8 ≤ P.bytesOf tCut
  int : P.underlying tInt = some (.int .i64) ∧ P.cellsOf tInt = 1
  cut : ∃ fs, P.underlying tCut = some (.struct fs) ∧ P.cellsOf tCut = 3 ∧ fs.toList.map (fun f => (f.type, f.offset)) = [(tInt, 0), (tInt, 1), (tInt, 2)]
  cuts : P.underlying tCuts = some (.slice tCut) ∧ P.cellsOf tCuts = 1
theorem rdI {P : Program} {t : TypeId} (h : P.underlying t = some (.int .i64) ∧ P.cellsOf t = 1) : Rd P t 1 (fun n : Int => [V.i n]) I64 :=
  (Rd.int h.1 h.2).map fun n h => ⟨n, by
    have : (decide (IntKind.i64.min ≤ n) && decide (n ≤ IntKind.i64.max)) = true := h
    simp only [Bool.and_eq_true, decide_eq_true_eq] at this
    exact ⟨this.1, this.2⟩, rfl⟩
theorem rdCut {P : Program} {tInt tCut : TypeId} (hi : P.underlying tInt = some (.int .i64) ∧ P.cellsOf tInt = 1)
    (hc : ∃ fs, P.underlying tCut = some (.struct fs) ∧ P.cellsOf tCut = 3 ∧ fs.toList.map (fun f => (f.type, f.offset)) = [(tInt, 0), (tInt, 1), (tInt, 2)]) : Rd P tCut 3 DCut.cells okCut := by
  obtain ⟨fs, h1, h2, h3⟩ := hc
  refine (Rd.struct h1 h2 (RdF.of_map (fs := [fl tInt 0, fl tInt 1, fl tInt 2]) (.cons rfl (rdI hi) (.cons rfl (rdI hi) (.cons rfl (rdI hi) .nil))) h3)).map fun x h => ?_
  exact ⟨⟨x.1, x.2.1, x.2.2.1⟩, ⟨h.1, h.2.1, h.2.2.1⟩, rfl⟩
theorem CTypes.rdCuts {P : Program} {tInt tCut tCuts : TypeId} (M : CTypes P tInt tCut tCuts) : Rd P tCuts 1 (fun l : List DCut => [vCuts l]) zCuts :=
  (Rd.slice M.cuts.1 M.cuts.2 (by omega) (rdCut M.int M.cut)).map fun l h => ⟨l, ⟨h.1, maxS_of h.2.1 M.bytes, h.2.2⟩, rfl⟩
end Go.Abs.G


namespace Go.Abs.G
open Go.Proofs
set_option linter.unusedVariables false
set_option linter.unusedSimpArgs false

theorem small17_spec (m : Model) (hm : zModel m) : DP Tryz.prog hallmarklaw17_small.id [.agg m.cells] fun r => ∃ b, r = .bool b := by
  have hz := hm
  obtain ⟨ok, z1, z2, z3, z4, z5⟩ := hm
  have hS : maxS = 17592186044416 := rfl
  refine DC.of hallmarklaw17_small.ok (by simp) ?_
  unfold hallmarklaw17_small.ir
  obtain ⟨B, hB⟩ : ∃ B, B = O.mem false [] [m.cells] := ⟨_, rfl⟩
  have hBr : B.refs = [] := by rw [hB]; rfl
  refine vc_cut (At [(1, .ptr 0 1 0 0)] [B]) (by simp -dsimp [At, hB, Model.cells, vVars, vCons, vTerms]) ?_
  try clear h
  rintro ⟨sl, hp, bs⟩ ⟨rfl, h⟩
  simp only [sls_cons, sls_one, sls_nil] at h
  refine vc_cut (fun st => ∃ n : Int, 0 ≤ n ∧ n ≤ 100000000000000 ∧ At [(1, .ptr 0 1 0 0), (3, V.i n)] [B] st) ?_ ?_
  · have w1 : IntKind.i64.wrap ((m.vars.length : Int) + m.cons.length) = m.vars.length + m.cons.length := by rw [wrap64] <;> omega
    have w2 : IntKind.i64.wrap ((m.vars.length : Int) + m.cons.length + m.goal.length) = m.vars.length + m.cons.length + m.goal.length := by rw [wrap64] <;> omega
    simp -dsimp [h, At, hB, Model.cells, vVars, vCons, vTerms, w1, w2]
    omega
  rintro ⟨sl, hp, bs⟩ ⟨n, n0, n1, rfl, h⟩; simp only [sls_cons, sls_one] at h
  refine vc_cut (fun st => ∃ n : Int, 0 ≤ n ∧ n ≤ 100000000000000 ∧ At [(1, .ptr 0 1 0 0), (3, V.i n)] [B] st) ?_ ?_
  · refine vc_cut (At [(1, .ptr 0 1 0 0), (3, V.i n), (4, V.i 0)] [B]) (by simp -dsimp [h, At]) ?_
    try clear h
    rintro ⟨sl, hp, bs⟩ ⟨rfl, h⟩
    simp only [sls_cons, sls_one, sls_nil] at h
    refine vc_block_of (vc_upto 1 (by simp) m.cons.length (fun i st => ∃ n : Int, 0 ≤ n ∧ n ≤ 100000000000000 ∧ At [(1, .ptr 0 1 0 0), (3, V.i n), (4, V.i i)] [B] st) ⟨n, n0, n1, rfl, by simpa using h⟩ ?_)
    clear h n0 n1 n
    rintro i ⟨sl, hp, bs⟩ hi ⟨n, n0, n1, rfl, h⟩
    simp only [sls_cons, sls_one] at h
    unfold hallmarklaw17_small.b0
    by_cases hil : i < m.cons.length
    · by_cases hn : n ≤ 65536
      · have hw : IntKind.i64.wrap ((i : Int) + 1) = ((i + 1 : Nat) : Int) := by rw [wrap64] <;> omega
        obtain ⟨c, hcc⟩ : ∃ c, c = m.cons[i] := ⟨_, rfl⟩
        obtain ⟨_, zc1, zc2, zc3, _⟩ := z5 c (by rw [hcc]; exact List.getElem_mem hil)
        have w1 : IntKind.i64.wrap (n + c.terms.length) = n + c.terms.length := by rw [wrap64] <;> omega
        have w2 : IntKind.i64.wrap (n + c.terms.length + c.xs.length) = n + c.terms.length + c.xs.length := by rw [wrap64] <;> omega
        have w3 : IntKind.i64.wrap (n + c.terms.length + c.xs.length + c.table.length) = n + c.terms.length + c.xs.length + c.table.length := by rw [wrap64] <;> omega
        simp -dsimp [h, At, hil, hn, hw, hB, Model.cells, vVars, vCons, vTerms, ← hcc, Con.cells, vInts, w1, w2, w3]
        omega
      · simp -dsimp [h, At, hil, hn, hB, Model.cells, vVars, vCons, vTerms]
        omega
    · simp -dsimp [h, At, hil, hB, Model.cells, vVars, vCons, vTerms]
      omega
  rintro ⟨sl, hp, bs⟩ ⟨n, n0, n1, rfl, h⟩; simp only [sls_cons, sls_one] at h
  simp -dsimp [h, hallmarklaw17_small.rs]
end Go.Abs.G

namespace Go.Abs.G
open Go.Proofs
set_option linter.unusedVariables false
set_option linter.unusedSimpArgs false

def cutAll (s : List Dom) (l : List DCut) : List Dom := l.foldl (fun s c => (cutS s c.k c.x c.v).1) s
theorem cutAll_two {s : List Dom} {ms : List (List Dom)} (h : Two s ms) (l : List DCut) : Two (cutAll s l) ms := by
  induction l generalizing s with
  | nil => exact h
  | cons c l ih => exact ih (h.cut _ _ _)
theorem cutAll_take (s : List Dom) (l : List DCut) {i : Nat} (hi : i < l.length) : cutAll s (l.take (i + 1)) = (cutS (cutAll s (l.take i)) l[i].k l[i].x l[i].v).1 := by
  unfold cutAll; rw [List.take_succ_eq_append_getElem hi, List.foldl_append]; rfl
theorem stores_spec (m : Model) (l : List DCut) (hm : zModel m) (hl : l.length ≤ maxLen) : DC Tryz.prog hallmarklaw17_stores.id [.agg m.cells, vCuts l] [] (fun r H => r = .tup [.ptr 0 1 0 0, .ptr 1 1 0 0] ∧ H = [ST (cutAll (domsOf m) l) [], RT (cutAll (domsOf m) l) []]) := by
  refine DC.picks (Q := fun r H => r = .tup [.ptr 1 1 0 0, .ptr 2 1 0 0] ∧ ∃ B, H = [B, ST (cutAll (domsOf m) l) [], RT (cutAll (domsOf m) l) []]) ?_ ?_
  rotate_left
  · rintro r H ⟨rfl, B, rfl⟩
    exact ⟨[1, 2], ⟨by simp, by simp, by simp, by simp⟩, by simp, by simp [V.ids], rfl, by simp [sub]⟩
  have hM : (maxLen : Int) ≤ 9223372036854775807 := by decide
  refine DC.of hallmarklaw17_stores.ok (by simp) ?_
  unfold hallmarklaw17_stores.ir
  obtain ⟨B, hB⟩ : ∃ B, B = O.mem false [] [m.cells] := ⟨_, rfl⟩
  have hBr : B.refs = [] := by rw [hB]; rfl
  refine vc_cut (At [(1, vCuts l), (2, .ptr 0 1 0 0)] [B]) (by simp -dsimp [At, hB, Model.cells, vVars, vCons, vTerms]) ?_
  try clear h
  rintro ⟨sl, hp, bs⟩ ⟨rfl, h⟩
  simp only [sls_cons, sls_one, sls_nil] at h
  refine vc_cut (At [(1, vCuts l), (6, .ptr 1 1 0 0), (7, .ptr 2 1 0 0)] [B, ST (domsOf m) [], RT (domsOf m) []]) ?_ ?_
  · simp -dsimp [h, hB, Model.cells, vVars, vCons, vTerms]
    refine gcallo (newT m hm.1) (by simp -dsimp [h, Model.cells, vVars, vCons, vTerms]) (by simp [Model.cells, vVars, vCons, vTerms]) (by simp) ?_
    simp -dsimp [h, hB, Model.cells, vVars, vCons, vTerms]
    refine gcallo (newZ m hm.1) (by simp -dsimp [h, Model.cells, vVars, vCons, vTerms]) (by simp [Model.cells, vVars, vCons, vTerms]) (by simp) ?_
    simp -dsimp [h, At, hB, Model.cells, vVars, vCons, vTerms]
  try clear h
  rintro ⟨sl, hp, bs⟩ ⟨rfl, h⟩
  simp only [sls_cons, sls_one, sls_nil] at h
  refine vc_cut (At [(6, .ptr 1 1 0 0), (7, .ptr 2 1 0 0)] [B, ST (cutAll (domsOf m) l) [], RT (cutAll (domsOf m) l) []]) ?_ ?_
  · refine vc_cut (At [(1, vCuts l), (6, .ptr 1 1 0 0), (7, .ptr 2 1 0 0), (8, V.i 0)] [B, ST (domsOf m) [], RT (domsOf m) []]) (by simp -dsimp [h, At]) ?_
    try clear h
    rintro ⟨sl, hp, bs⟩ ⟨rfl, h⟩
    simp only [sls_cons, sls_one, sls_nil] at h
    refine vc_block_of (vc_upto 3 (by simp) l.length (fun i st => At [(1, vCuts l), (6, .ptr 1 1 0 0), (7, .ptr 2 1 0 0), (8, V.i i)] [B, ST (cutAll (domsOf m) (l.take i)) [], RT (cutAll (domsOf m) (l.take i)) []] st) ⟨rfl, by simpa using h⟩ ?_)
    clear h
    rintro i ⟨sl, hp, bs⟩ hi ⟨rfl, h⟩
    simp only [sls_cons, sls_one] at h
    unfold hallmarklaw17_stores.b0
    have ht : Two (cutAll (domsOf m) (l.take i)) [] := cutAll_two (Two.new m) _
    by_cases hil : i < l.length
    · have hw : IntKind.i64.wrap ((i : Int) + 1) = ((i + 1 : Nat) : Int) := by rw [wrap64] <;> omega
      have hc := cutAll_take (domsOf m) l hil
      obtain ⟨c, hcc⟩ : ∃ c, c = l[i] := ⟨_, rfl⟩
      rw [← hcc] at hc
      obtain ⟨s, hs⟩ : ∃ s, s = cutAll (domsOf m) (l.take i) := ⟨_, rfl⟩
      rw [← hs] at ht hc
      rw [← hs]
      simp -dsimp [h, hil, vCuts, ← hcc, DCut.cells]
      refine gcallm1 (cutT ht c.k c.x c.v) 1 (by simp -dsimp [h, addAll]) (by simp -dsimp [h]) (by simp) (by simp) (by simp) (by simp -dsimp [h, idx]) (by simp) ?_
      simp -dsimp [h, hil, vCuts, ← hcc, DCut.cells]
      refine gcallm1 (cutZ ht c.k c.x c.v) 2 (by simp -dsimp [h, addAll]) (by simp -dsimp [h]) (by simp) (by simp) (by simp) (by simp -dsimp [h, idx]) (by simp) ?_
      simp -dsimp [h, hil, hw, At, hc, hBr]
      rfl
    · have hil' : i = l.length := by omega
      subst hil'
      simp -dsimp [h, At, vCuts]
  try clear h
  rintro ⟨sl, hp, bs⟩ ⟨rfl, h⟩
  simp only [sls_cons, sls_one, sls_nil] at h
  simp -dsimp [h, hallmarklaw17_stores.rs]
end Go.Abs.G

/- Both parts of a split. -/
namespace Go.Abs.G
open Go.Proofs
set_option linter.unusedVariables false

theorem tmod_add {a n : Int} (hn : 0 < n) : (a.tmod n + n).tmod n = a % n := by
  obtain ⟨t1, t2⟩ := tdiv_mod a n hn
  have b2 := Int.lt_tmod_of_pos a hn
  rw [Int.tmod_eq_emod_of_nonneg (by omega), Int.add_emod_right]
  have e := Int.mul_tdiv_add_tmod a n
  have : a.tmod n = a - n * a.tdiv n := by omega
  rw [this, Int.sub_mul_emod_self_left]

theorem filter_two (p : Int → Bool) (l : List Int) : (l.filter fun y => !p y).length + (l.filter p).length = l.length := by
  induction l with
  | nil => rfl
  | cons a l ih => cases h : p a <;> simp [h] <;> omega
section
variable {s : List Dom} (hs : ∀ d ∈ s, DG d) {x k : Int} (hx : isB s x = true) (h1 : 1 < (valsB s x).length) (hk0 : loB s x < k) (hk1 : k ≤ hiB s x)
include hs hx h1 hk0 hk1
theorem part_lo : loB s x ∈ leftR 2 (k - 1) (valsB s x) := by
  have hm : loB s x ∈ valsB s x := head_mem (vals_ne hs hx)
  exact leftR_mem.2 ⟨hm, by simp [goesB]; omega⟩
theorem part_hi : hiB s x ∈ leftR 1 k (valsB s x) := by
  have hm : hiB s x ∈ valsB s x := last_mem (vals_ne hs hx)
  exact leftR_mem.2 ⟨hm, by simp [goesB]; omega⟩
theorem part_len : (leftR 2 (k - 1) (valsB s x)).length + (leftR 1 k (valsB s x)).length = (valsB s x).length := by
  unfold leftR
  have e : (fun y => !goesB 2 (k - 1) y) = fun y => !(!goesB 1 k y) := by
    funext y
    simp only [goesB]
    rw [Bool.eq_iff_iff]
    simp
    omega
  rw [e]
  exact filter_two (fun y => !goesB 1 k y) (valsB s x)
theorem part_a : (cutS s 2 x (k - 1)).2 = (true, true) := by
  have hl := part_lo hs hx h1 hk0 hk1
  have hh := List.length_pos_of_mem (part_hi hs hx h1 hk0 hk1)
  have ha := part_len hs hx h1 hk0 hk1
  have hne : leftR 2 (k - 1) (valsB s x) ≠ [] := List.ne_nil_of_mem hl
  rw [cut_bools hs]
  simp [hx, hne]; omega
theorem part_b : (cutS s 1 x k).2 = (true, true) := by
  have hl := List.length_pos_of_mem (part_lo hs hx h1 hk0 hk1)
  have hh := part_hi hs hx h1 hk0 hk1
  have ha := part_len hs hx h1 hk0 hk1
  have hne : leftR 1 k (valsB s x) ≠ [] := List.ne_nil_of_mem hh
  rw [cut_bools hs]
  simp [hx, hne]; omega
theorem part_va : valsB (cutS s 2 x (k - 1)).1 x = leftR 2 (k - 1) (valsB s x) := by
  rw [cut_rows hs, if_pos ⟨rfl, List.ne_nil_of_mem (part_lo hs hx h1 hk0 hk1)⟩]
theorem part_vb : valsB (cutS s 1 x k).1 x = leftR 1 k (valsB s x) := by
  rw [cut_rows hs, if_pos ⟨rfl, List.ne_nil_of_mem (part_hi hs hx h1 hk0 hk1)⟩]
theorem part_has {w : Int} (hw : w ∈ valsB s x) : decide (w ∈ valsB (cutS s 2 x (k - 1)).1 x) = !decide (w ∈ valsB (cutS s 1 x k).1 x) := by
  rw [part_va hs hx h1 hk0 hk1, part_vb hs hx h1 hk0 hk1, Bool.eq_iff_iff]
  simp [leftR_mem, hw, goesB]
  omega
end
/-- A split's number. -/
theorem pick_at {s : List Dom} (hs : ∀ d ∈ s, DG d) {i : Nat} (hi : i < (openB s s.length).length) {j : Int} {y : Int} (hy : (openB s s.length)[i]? = some y) (hj0 : 0 ≤ j) (hj1 : j < hiB s y - loB s y) :
    pickB s (i + (openB s s.length).length * j) = (y, loB s y + 1 + j, true) := by
  have hn : openB s s.length ≠ [] := fun e => by rw [e] at hi; simp at hi
  have e1 : ((i : Int) + (openB s s.length).length * j) % (openB s s.length).length = i := by
    rw [Int.add_mul_emod_self_left]; exact Int.emod_eq_of_lt (by omega) (by omega)
  have e2 : ((i : Int) + (openB s s.length).length * j) / (openB s s.length).length = j := by
    rw [Int.add_mul_ediv_left _ _ (by omega), Int.ediv_eq_zero_of_lt (by omega) (by omega), Int.zero_add]
  unfold pickB
  rw [if_neg hn]
  simp only [e1, e2]
  have e3 : (openB s s.length).getD ((i : Int)).toNat 0 = y := by rw [List.getD_eq_getElem?_getD]; simp [hy]
  rw [e3, Int.emod_eq_of_lt hj0 hj1]
end Go.Abs.G

namespace Go.Abs.G
open Go.Proofs
set_option linter.unusedVariables false
set_option linter.unusedSimpArgs false

/-- A script. -/
def SC (l : List Int) : O := .mem false [] [[vInts l]]
theorem SC_clo' (l : List Int) : (SC l).clo := ⟨rfl, fun f => by simp [SC], fun e => by cases e⟩
section
variable (l : List Int)
@[simp] theorem SC_clo : (SC l).clo = True := eq_true (SC_clo' l)
@[simp] theorem SC_isMem : (SC l).isMem = true := rfl
@[simp] theorem SC_refs : (SC l).refs = [] := rfl
@[simp] theorem SC_rows : (SC l).rows = [[vInts l]] := rfl
@[simp] theorem SC_tot (n : Nat) : (SC l).hasTot n = (1 = n) := rfl
@[simp] theorem SC_ren (f : Nat → Nat) : O.ren f (SC l) = SC l := (SC_clo' l).ren f
@[simp] theorem SC_nres : (SC l = .res) = False := eq_false (SC_clo' l).nres
end
theorem new17_spec (l : List Int) (hl : (l.length : Int) * 8 ≤ 140737488355328) : DC Tryz.prog branch_New.id [vInts l] [] (fun r H => r = .ptr 0 1 0 0 ∧ H = [SC l]) := by
  refine DC.of branch_New.ok (by simp) ?_
  unfold branch_New.ir
  have h := True.intro
  simp -dsimp []
  refine gcall (clone_int_pf (l.map fun n => [V.i n]) (by simpa using hl)) (by simp -dsimp [h, vInts, SC, branch_New.rs]) (by simp -dsimp [h, vInts, SC, branch_New.rs]) ?_
  simp -dsimp [h, vInts, SC, branch_New.rs]
theorem next17_spec (l : List Int) : DC Tryz.prog branch_list_Next.id [.ptr 0 1 0 0] [SC l] (fun r H => r = V.i (l.headD 0) ∧ H = [SC l.tail]) := by
  refine DC.of branch_list_Next.ok (by simp) ?_
  unfold branch_list_Next.ir
  cases l with
  | nil => simp -dsimp [SC, vInts, branch_list_Next.rs]
  | cons a l =>
    have hn : ¬ ((l.length : Int) + 1 = 0) := by omega
    simp -dsimp [SC, vInts, branch_list_Next.rs, hn]
    exact ⟨by omega, List.take_of_length_le (by simp)⟩

def m17 : Model := ⟨[⟨⟨#[120]⟩, 0, 3⟩, ⟨⟨#[121]⟩, 7, 7⟩, ⟨⟨#[122]⟩, 1, 2⟩], [], false, []⟩
theorem m17_ok : okModel m17 := by
  refine ⟨⟨by decide, fun v hv => ?_⟩, ⟨by decide, fun c hc => by cases hc⟩, by decide, fun t ht => by cases ht⟩
  simp only [m17, List.mem_cons, List.not_mem_nil, or_false] at hv
  rcases hv with rfl | rfl | rfl <;> exact ⟨by decide, ⟨by decide, by decide⟩, ⟨by decide, by decide⟩⟩
theorem m17_1 : pickB (domsOf m17) (-2) = (0, 3, true) := by decide +kernel
theorem m17_2 : pickB (domsOf m17) 5 = (2, 2, true) := by decide +kernel

theorem known17_spec : Pf Tryz.prog hallmarklaw17_known.id [] (.bool true) := by
  refine DC.of hallmarklaw17_known.ok (by simp) ?_
  unfold hallmarklaw17_known.ir
  have hnew := newT m17 m17_ok
  have hT := Two.new m17
  have p1 := pick_spec hT (-2) ⟨by decide, by decide⟩
  have p2 := pick_spec hT 5 ⟨by decide, by decide⟩
  rw [m17_1] at p1
  rw [m17_2] at p2
  generalize domsOf m17 = s at hnew hT p1 p2
  refine vc_cut (At [] []) (by simp -dsimp [At]) ?_
  try clear h
  rintro ⟨sl, hp, bs⟩ ⟨rfl, h⟩
  simp only [sls_cons, sls_one, sls_nil] at h
  refine vc_cut (fun st => ∃ A, At [(1, .ptr 1 1 0 0)] [A, ST s []] st) ?_ ?_
  · simp -dsimp [h]
    refine gcallo (zs := [.agg [vVars m17.vars, nilS, .bool false, nilS]]) (H0 := [ST s []]) (r0 := .ptr 0 1 0 0) (DC.sub (.cons (.agg (.cons (.refl _) (.cons (.nil 10) (.cons (.refl _) (.cons (.nil 2) .nil))))) .nil) hnew) (by simp -dsimp [vVars, m17, Var.cells]) (by simp -dsimp [vVars]) (by simp) ?_
    simp -dsimp [At]
  rintro ⟨sl, hp, bs⟩ ⟨A, rfl, h⟩; simp only [sls_one] at h
  refine vc_cut (fun st => ∃ A, At [(1, .ptr 1 1 0 0), (2, .ptr 3 1 0 0)] [A, ST s [], .res, SC [4, 5]] st) ?_ ?_
  · simp -dsimp [h]
    refine gcallm (new17_spec [4, 5] (by decide)) [] (by simp -dsimp [h, addAll, vInts]) ⟨by simp, by simp, by simp, by simp⟩ (by simp -dsimp [h, vInts]) (by simp [sub]) (by simp) ?_
    simp -dsimp [h, At, merge, place, back]
  rintro ⟨sl, hp, bs⟩ ⟨A, rfl, h⟩; simp only [sls_one, sls_cons] at h
  refine vc_cut (At [(1, .ptr 1 1 0 0)] [A, ST s [], .res, SC []]) ?_ ?_
  · simp -dsimp [h]
    refine gcallm1 (next17_spec [4, 5]) 3 (by simp -dsimp [h, addAll]) (by simp -dsimp [h]) (by simp) (by simp) (by simp) (by simp -dsimp [h, idx]) (by simp) ?_
    simp -dsimp [h]
    refine gcallm1 (next17_spec [5]) 3 (by simp -dsimp [h, addAll]) (by simp -dsimp [h]) (by simp) (by simp) (by simp) (by simp -dsimp [h, idx]) (by simp) ?_
    simp -dsimp [h]
    refine gcallm1 (next17_spec []) 3 (by simp -dsimp [h, addAll]) (by simp -dsimp [h]) (by simp) (by simp) (by simp) (by simp -dsimp [h, idx]) (by simp) ?_
    simp -dsimp [h, At]
  try clear h
  rintro ⟨sl, hp, bs⟩ ⟨rfl, h⟩
  simp only [sls_cons, sls_one, sls_nil] at h
  refine vc_cut (At [(1, .ptr 1 1 0 0), (3, V.i 0), (4, V.i 3), (5, .bool true)] [A, ST s [], .res, SC []]) ?_ ?_
  · simp -dsimp [h]
    refine gcallm1 (p1) 1 (by simp -dsimp [h, addAll]) (by simp -dsimp [h]) (by simp) (by simp) (by simp) (by simp -dsimp [h, idx]) (by simp) ?_
    simp -dsimp [h, pickV, At]
  try clear h
  rintro ⟨sl, hp, bs⟩ ⟨rfl, h⟩
  simp only [sls_cons, sls_one, sls_nil] at h
  refine vc_cut (At [(3, V.i 0), (4, V.i 3), (5, .bool true), (6, V.i 2), (7, V.i 2), (8, .bool true)] [A, ST s [], .res, SC []]) ?_ ?_
  · simp -dsimp [h]
    refine gcallm1 (p2) 1 (by simp -dsimp [h, addAll]) (by simp -dsimp [h]) (by simp) (by simp) (by simp) (by simp -dsimp [h, idx]) (by simp) ?_
    simp -dsimp [h, pickV, At]
  try clear h
  rintro ⟨sl, hp, bs⟩ ⟨rfl, h⟩
  simp only [sls_cons, sls_one, sls_nil] at h
  simp -dsimp [h, hallmarklaw17_known.rs]
end Go.Abs.G

namespace Go.Abs.G
open Go.Proofs
set_option linter.unusedVariables false
set_option linter.unusedSimpArgs false

theorem parts_law (m : Model) (l : List DCut) (n which at' : Int) (hm : zModel m) (hl : zCuts l) (hn : I64 n) (hwh : I64 which) (hat : I64 at') : Pf Tryz.prog hallmarklaw17_BranchParts.id [.agg m.cells, vCuts l, V.i n, V.i which, V.i at'] (.bool true) := by
  have hM : (maxLen : Int) ≤ 9223372036854775807 := by decide
  have hl1 := hl.1
  have hT := cutAll_two (Two.new m) l
  refine DC.of hallmarklaw17_BranchParts.ok (by simp) ?_
  unfold hallmarklaw17_BranchParts.ir
  obtain ⟨B, hB⟩ : ∃ B, B = O.mem false [] [m.cells] := ⟨_, rfl⟩
  have hBr : B.refs = [] := by rw [hB]; rfl
  refine vc_cut (At [(1, vCuts l), (2, V.i n), (3, V.i which), (4, V.i at'), (5, .ptr 0 1 0 0)] [B]) (by simp -dsimp [At, hB, Model.cells, vVars, vCons, vTerms]) ?_
  try clear h
  rintro ⟨sl, hp, bs⟩ ⟨rfl, h⟩
  simp only [sls_cons, sls_one, sls_nil] at h
  refine vc_cut (At [(1, vCuts l), (2, V.i n), (3, V.i which), (4, V.i at'), (5, .ptr 0 1 0 0)] [B]) ?_ ?_
  · simp -dsimp [h]
    refine gcall (known17_spec) (by simp -dsimp [h, At]) (by simp -dsimp [h, At]) ?_
    simp -dsimp [h, At]
  try clear h
  rintro ⟨sl, hp, bs⟩ ⟨rfl, h⟩
  simp only [sls_cons, sls_one, sls_nil] at h
  refine vc_cut (At [(1, vCuts l), (2, V.i n), (3, V.i which), (4, V.i at'), (5, .ptr 0 1 0 0)] [B]) ?_ ?_
  · simp -dsimp [h, hB, Model.cells, vVars, vCons, vTerms]
    refine gcall_gen (small17_spec m hm) (by simp -dsimp [h, Model.cells, vVars, vCons, vTerms]) (by simp [Model.cells, vVars, vCons, vTerms]) ?_
    rintro r ⟨b, rfl⟩
    cases b
    · simp -dsimp [h, hallmarklaw17_BranchParts.rs, vCuts]
    · by_cases h1 : l.length ≤ 300
      · have h1' : ¬ (300 : Int) < l.length := by omega
        simp -dsimp [h, At, hB, Model.cells, vVars, vCons, vTerms, vCuts, h1, h1']
      · have h1' : (300 : Int) < l.length := by omega
        simp -dsimp [h, hallmarklaw17_BranchParts.rs, vCuts, h1']
  try clear h
  rintro ⟨sl, hp, bs⟩ ⟨rfl, h⟩
  simp only [sls_cons, sls_one, sls_nil] at h
  obtain ⟨s, hs⟩ : ∃ s, s = cutAll (domsOf m) l := ⟨_, rfl⟩
  have hst := stores_spec m l hm hl1
  rw [← hs] at hst hT
  clear hs
  have Z := RT s []
  refine vc_cut (At [(2, V.i n), (3, V.i which), (4, V.i at'), (11, .ptr 1 1 0 0)] [B, ST s [], RT s []]) ?_ ?_
  · simp -dsimp [h, hB, Model.cells, vVars, vCons, vTerms, vCuts]
    refine gcallo hst (by simp -dsimp [h, Model.cells, vVars, vCons, vTerms, vCuts]) (by simp [Model.cells, vVars, vCons, vTerms, vCuts]) (by simp) ?_
    simp -dsimp [h, At, hB, Model.cells, vVars, vCons, vTerms, vCuts]
  try clear h
  rintro ⟨sl, hp, bs⟩ ⟨rfl, h⟩
  simp only [sls_cons, sls_one, sls_nil] at h
  refine vc_cut (At [(2, V.i n), (3, V.i which), (4, V.i at'), (11, .ptr 1 1 0 0)] [B, ST s [], RT s []]) (by simp -dsimp [h, At]) ?_
  try clear h
  rintro ⟨sl, hp, bs⟩ ⟨rfl, h⟩
  simp only [sls_cons, sls_one, sls_nil] at h
  refine vc_cut (At [(2, V.i n), (3, V.i which), (4, V.i at'), (11, .ptr 1 1 0 0), (13, vInts (openB s s.length))] [B, ST s [], RT s []]) ?_ ?_
  · simp -dsimp [h]
    refine gcallm1 (openT hT) 1 (by simp -dsimp [h, addAll]) (by simp -dsimp [h]) (by simp) (by simp) (by simp) (by simp -dsimp [h, idx]) (by simp) ?_
    simp -dsimp [h, At]
  try clear h
  rintro ⟨sl, hp, bs⟩ ⟨rfl, h⟩
  simp only [sls_cons, sls_one, sls_nil] at h
  obtain ⟨p, hp⟩ : ∃ p, p = pickB s n := ⟨_, rfl⟩
  have q1 := pick_spec hT n hn
  rw [← hp] at q1
  refine vc_cut (At [(3, V.i which), (4, V.i at'), (11, .ptr 1 1 0 0), (13, vInts (openB s s.length)), (14, V.i p.1), (15, V.i p.2.1), (16, .bool p.2.2)] [B, ST s [], RT s []]) ?_ ?_
  · simp -dsimp [h]
    refine gcallm1 (q1) 1 (by simp -dsimp [h, addAll]) (by simp -dsimp [h]) (by simp) (by simp) (by simp) (by simp -dsimp [h, idx]) (by simp) ?_
    simp -dsimp [h, pickV, At]
  try clear h
  rintro ⟨sl, hp, bs⟩ ⟨rfl, h⟩
  simp only [sls_cons, sls_one, sls_nil] at h
  have h64 := hT.n
  have hsm := open_small' s
  obtain ⟨L, hL⟩ : ∃ L, L = openB s s.length := ⟨_, rfl⟩
  rw [← hL] at h hsm
  by_cases hne : L = []
  · have : p = (0, 0, false) := by rw [hp]; simp [pickB, ← hL, hne]
    simp -dsimp [h, this, hne, vInts, hallmarklaw17_BranchParts.rs]
  have hll : 0 < L.length := List.length_pos_iff.2 hne
  have hll' : (0 : Int) < L.length := by omega
  obtain ⟨hlt', hmem⟩ := pick_open hT.d (by rw [← hL]; exact hne) n
  obtain ⟨x, k, hpk, hxm, hk0, hk1⟩ : ∃ x k, p = (x, k, true) ∧ x ∈ L ∧ loB s x < k ∧ k ≤ hiB s x := by
    refine ⟨_, _, by rw [hp, pickB, if_neg (by rw [← hL]; exact hne)], by rw [hL]; exact hmem, ?_, ?_⟩
    · have hlh := lo_lt_hi ((open_mem hT.d).1 hmem).2
      have := Int.emod_nonneg (n / ((openB s s.length).length : Int)) (show hiB s ((openB s s.length).getD (n % (openB s s.length).length).toNat 0) - loB s ((openB s s.length).getD (n % (openB s s.length).length).toNat 0) ≠ 0 by omega)
      omega
    · have hlh := lo_lt_hi ((open_mem hT.d).1 hmem).2
      have := Int.emod_lt_of_pos (n / ((openB s s.length).length : Int)) (show 0 < hiB s ((openB s s.length).getD (n % (openB s s.length).length).toNat 0) - loB s ((openB s s.length).getD (n % (openB s s.length).length).toNat 0) by omega)
      omega
  obtain ⟨hxi, hx1⟩ := (open_mem hT.d).1 (hL ▸ hxm)
  rw [hpk] at h
  simp only [] at h
  have r1 := lo_range hT.d x
  have r2 := hi_range hT.d x
  have ea := part_a hT.d hxi hx1 hk0 hk1
  have eb := part_b hT.d hxi hx1 hk0 hk1
  have va := part_va hT.d hxi hx1 hk0 hk1
  have vb := part_vb hT.d hxi hx1 hk0 hk1
  have ca := cutT hT 2 x (k - 1)
  have cb := cutT hT 1 x k
  rw [ea] at ca
  rw [eb] at cb
  have ta := hT.cut 2 x (k - 1)
  have tb := hT.cut 1 x k
  have hpl := part_len hT.d hxi hx1 hk0 hk1
  have hpa := List.length_pos_of_mem (part_lo hT.d hxi hx1 hk0 hk1)
  have hpb := List.length_pos_of_mem (part_hi hT.d hxi hx1 hk0 hk1)
  have hph : ∀ w, w ∈ valsB s x → decide (w ∈ valsB (cutS s 2 x (k - 1)).1 x) = !decide (w ∈ valsB (cutS s 1 x k).1 x) := fun w hw => part_has hT.d hxi hx1 hk0 hk1 hw
  have vl := valsB_small hT.d x
  rw [← va] at hpl hpa
  rw [← vb] at hpl hpb
  obtain ⟨a, ha⟩ : ∃ a, a = (cutS s 2 x (k - 1)).1 := ⟨_, rfl⟩
  obtain ⟨b, hb⟩ : ∃ b, b = (cutS s 1 x k).1 := ⟨_, rfl⟩
  rw [← ha] at ca ta hpl hpa hph
  rw [← hb] at cb tb hpl hpb hph
  clear ea eb va vb
  refine vc_cut (At [(3, V.i which), (4, V.i at'), (11, .ptr 1 1 0 0), (13, vInts L), (14, V.i x), (15, V.i k), (16, .bool true)] [B, ST s [], RT s []]) (by simp -dsimp [h, At, vInts, hne, hll]) ?_
  try clear h
  rintro ⟨sl, hp, bs⟩ ⟨rfl, h⟩
  simp only [sls_cons, sls_one, sls_nil] at h
  refine vc_cut (At [(3, V.i which), (4, V.i at'), (11, .ptr 1 1 0 0), (13, vInts L), (14, V.i x), (15, V.i k)] [B, ST s [], RT s []]) (by simp -dsimp [h, At]) ?_
  try clear h
  rintro ⟨sl, hp, bs⟩ ⟨rfl, h⟩
  simp only [sls_cons, sls_one, sls_nil] at h
  refine vc_cut (At [(3, V.i which), (4, V.i at'), (11, .ptr 1 1 0 0), (13, vInts L), (14, V.i x), (15, V.i k), (17, .ptr 3 1 0 0), (18, .ptr 4 1 0 0)] [B, ST s [], RT s [], ST s [], ST s []]) ?_ ?_
  · simp -dsimp [h]
    refine gcallm1 (copyT hT) 1 (by simp -dsimp [h, addAll]) (by simp -dsimp [h]) (by simp) (by simp) (by simp) (by simp -dsimp [h, idx]) (by simp) ?_
    simp -dsimp [h]
    refine gcallm1 (copyT hT) 1 (by simp -dsimp [h, addAll]) (by simp -dsimp [h]) (by simp) (by simp) (by simp) (by simp -dsimp [h, idx]) (by simp) ?_
    simp -dsimp [h, At]
  try clear h
  rintro ⟨sl, hp, bs⟩ ⟨rfl, h⟩
  simp only [sls_cons, sls_one, sls_nil] at h
  refine vc_cut (At [(3, V.i which), (4, V.i at'), (11, .ptr 1 1 0 0), (13, vInts L), (14, V.i x), (15, V.i k), (17, .ptr 3 1 0 0), (18, .ptr 4 1 0 0)] [B, ST s [], RT s [], ST s [], ST s []]) (by simp -dsimp [h, At]) ?_
  try clear h
  rintro ⟨sl, hp, bs⟩ ⟨rfl, h⟩
  simp only [sls_cons, sls_one, sls_nil] at h
  have wk : IntKind.i64.wrap (k - 1) = k - 1 := by rw [wrap64] <;> omega
  refine vc_cut (At [(3, V.i which), (4, V.i at'), (11, .ptr 1 1 0 0), (13, vInts L), (14, V.i x), (15, V.i k), (17, .ptr 3 1 0 0), (18, .ptr 4 1 0 0), (19, .bool true), (20, .bool true)] [B, ST s [], RT s [], ST a [], ST s []]) ?_ ?_
  · simp -dsimp [h, wk]
    refine gcallm1 (ca) 3 (by simp -dsimp [h, addAll]) (by simp -dsimp [h]) (by simp) (by simp) (by simp) (by simp -dsimp [h, idx]) (by simp) ?_
    simp -dsimp [h, wk, At]
  try clear h
  rintro ⟨sl, hp, bs⟩ ⟨rfl, h⟩
  simp only [sls_cons, sls_one, sls_nil] at h
  refine vc_cut (At [(3, V.i which), (4, V.i at'), (11, .ptr 1 1 0 0), (13, vInts L), (14, V.i x), (17, .ptr 3 1 0 0), (18, .ptr 4 1 0 0), (19, .bool true), (20, .bool true), (21, .bool true), (22, .bool true)] [B, ST s [], RT s [], ST a [], ST b []]) ?_ ?_
  · simp -dsimp [h]
    refine gcallm1 (cb) 4 (by simp -dsimp [h, addAll]) (by simp -dsimp [h]) (by simp) (by simp) (by simp) (by simp -dsimp [h, idx]) (by simp) ?_
    simp -dsimp [h, At]
  try clear h
  rintro ⟨sl, hp, bs⟩ ⟨rfl, h⟩
  simp only [sls_cons, sls_one, sls_nil] at h
  refine vc_cut (At [(3, V.i which), (4, V.i at'), (11, .ptr 1 1 0 0), (13, vInts L), (14, V.i x), (17, .ptr 3 1 0 0), (18, .ptr 4 1 0 0)] [B, ST s [], RT s [], ST a [], ST b []]) ?_ ?_
  · simp -dsimp [h]
    have w1 : IntKind.i64.wrap ((valsB a x).length + (valsB b x).length : Int) = (valsB s x).length := by rw [wrap64] <;> omega
    have n1 : ¬ ((valsB a x).length : Int) < 1 := by omega
    have n2 : ¬ ((valsB b x).length : Int) < 1 := by omega
    have n3 : (valsB a x).length ≠ 0 := by omega
    have n4 : (valsB b x).length ≠ 0 := by omega
    refine gcallm1 (sizeT ta x) 3 (by simp -dsimp [h, addAll]) (by simp -dsimp [h]) (by simp) (by simp) (by simp) (by simp -dsimp [h, idx]) (by simp) ?_
    simp -dsimp [h]
    refine gcallm1 (sizeT tb x) 4 (by simp -dsimp [h, addAll]) (by simp -dsimp [h]) (by simp) (by simp) (by simp) (by simp -dsimp [h, idx]) (by simp) ?_
    simp -dsimp [h]
    refine gcallm1 (sizeT hT x) 1 (by simp -dsimp [h, addAll]) (by simp -dsimp [h]) (by simp) (by simp) (by simp) (by simp -dsimp [h, idx]) (by simp) ?_
    simp -dsimp [h, w1]
    refine gcallm1 (sizeT ta x) 3 (by simp -dsimp [h, addAll]) (by simp -dsimp [h]) (by simp) (by simp) (by simp) (by simp -dsimp [h, idx]) (by simp) ?_
    simp -dsimp [h, n1]
    refine gcallm1 (sizeT tb x) 4 (by simp -dsimp [h, addAll]) (by simp -dsimp [h]) (by simp) (by simp) (by simp) (by simp -dsimp [h, idx]) (by simp) ?_
    simp -dsimp [h, n2, At]
  try clear h
  rintro ⟨sl, hp, bs⟩ ⟨rfl, h⟩
  simp only [sls_cons, sls_one, sls_nil] at h
  refine vc_cut (At [(3, V.i which), (4, V.i at'), (11, .ptr 1 1 0 0), (13, vInts L), (14, V.i x), (17, .ptr 3 1 0 0), (18, .ptr 4 1 0 0), (23, vInts (valsB s x))] [B, ST s [], RT s [], ST a [], ST b []]) ?_ ?_
  · simp -dsimp [h]
    refine gcallm1 (valuesT hT x) 1 (by simp -dsimp [h, addAll]) (by simp -dsimp [h]) (by simp) (by simp) (by simp) (by simp -dsimp [h, idx]) (by simp) ?_
    simp -dsimp [h, At]
  try clear h
  rintro ⟨sl, hp, bs⟩ ⟨rfl, h⟩
  simp only [sls_cons, sls_one, sls_nil] at h
  have hBS : ∀ t u v : List Dom, (([B, ST t [], RT t [], ST u [], ST v []] : Heap).take 5).map (limO 5) = [B, ST t [], RT t [], ST u [], ST v []] := fun t u v => by simp [hBr]
  refine vc_cut (At [(3, V.i which), (4, V.i at'), (11, .ptr 1 1 0 0), (13, vInts L)] [B, ST s [], RT s [], ST a [], ST b []]) ?_ ?_
  · refine vc_cut (At [(3, V.i which), (4, V.i at'), (11, .ptr 1 1 0 0), (13, vInts L), (14, V.i x), (17, .ptr 3 1 0 0), (18, .ptr 4 1 0 0), (23, vInts (valsB s x)), (24, V.i 0)] [B, ST s [], RT s [], ST a [], ST b []]) (by simp -dsimp [h, At]) ?_
    try clear h
    rintro ⟨sl, hp, bs⟩ ⟨rfl, h⟩
    simp only [sls_cons, sls_one, sls_nil] at h
    refine vc_block_of (vc_upto 5 (by simp) (valsB s x).length (fun i st => At [(3, V.i which), (4, V.i at'), (11, .ptr 1 1 0 0), (13, vInts L), (14, V.i x), (17, .ptr 3 1 0 0), (18, .ptr 4 1 0 0), (23, vInts (valsB s x)), (24, V.i i)] [B, ST s [], RT s [], ST a [], ST b []] st) ⟨rfl, by simpa using h⟩ ?_)
    clear h
    rintro i ⟨sl, hp, bs⟩ hi ⟨rfl, h⟩
    simp only [sls_cons, sls_one] at h
    unfold hallmarklaw17_BranchParts.b0
    by_cases hil : i < (valsB s x).length
    · have hw : IntKind.i64.wrap ((i : Int) + 1) = ((i + 1 : Nat) : Int) := by rw [wrap64] <;> omega
      have hvm := List.getElem_mem hil
      have hv2 := (vals_mem hT.d hvm).2
      have hph' := hph _ hvm
      obtain ⟨vs, hvs⟩ : ∃ vs, vs = valsB s x := ⟨_, rfl⟩
      obtain ⟨v, hv⟩ : ∃ v, v = (valsB s x)[i] := ⟨_, rfl⟩
      have hvg : ∀ hh, vs[i]'hh = v := fun hh => by simp only [hvs, hv]
      rw [← hv] at hv2 hph'
      rw [← hvs] at h hil
      rw [← hvs]
      simp -dsimp [h, hil, vInts]
      refine gcalla1 (hasT ta x v ⟨by omega, by omega⟩) 3 (by simp -dsimp [h, hil, vInts, hvg, addAll]) (by simp) (by simp) (by simp) (by simp) (by simp -dsimp [h, hil, vInts, hvg]) (by simp -dsimp [h, hil, vInts, hvg, idx]) (by simp) ?_
      simp -dsimp [h, hil, vInts, hvg]
      refine gcalla1 (hasT tb x v ⟨by omega, by omega⟩) 4 (by simp -dsimp [h, hil, vInts, hvg, hph', hw, At, hBr, addAll]) (by simp) (by simp) (by simp) (by simp) (by simp -dsimp [h, hil, vInts, hvg, hph', hw, At, hBr]) (by simp -dsimp [h, hil, vInts, hvg, hph', hw, At, hBr, idx]) (by simp) ?_
      simp -dsimp [h, hil, vInts, hvg, hph', hw, At, hBr]
    · have hil' : i = (valsB s x).length := by omega
      subst hil'
      simp -dsimp [h, At, vInts]
  try clear h
  rintro ⟨sl, hp, bs⟩ ⟨rfl, h⟩
  simp only [sls_cons, sls_one, sls_nil] at h
  have m0 := Int.emod_nonneg which (show (L.length : Int) ≠ 0 by omega)
  have m1 := Int.emod_lt_of_pos which hll'
  have b1 := Int.lt_tmod_of_pos which hll'
  have b2 := Int.tmod_lt_of_pos which hll'
  have w1 : IntKind.i64.wrap (which.tmod L.length) = which.tmod L.length := by rw [wrap64] <;> omega
  have w2 : IntKind.i64.wrap (which.tmod L.length + L.length) = which.tmod L.length + L.length := by rw [wrap64] <;> omega
  obtain ⟨q, hq⟩ : ∃ q : Nat, (q : Int) = which % L.length := ⟨(which % L.length).toNat, by omega⟩
  have w3 : IntKind.i64.wrap ((which.tmod L.length + L.length).tmod L.length) = (q : Int) := by rw [tmod_add hll', hq, wrap64] <;> omega
  have z3 : (which.tmod L.length + L.length).tmod L.length = (q : Int) := by rw [tmod_add hll', hq]
  have hql : q < L.length := by omega
  obtain ⟨y, hy⟩ : ∃ y, L[q]? = some y := ⟨_, List.getElem?_eq_getElem hql⟩
  have hyg : ∀ hh, L[q]'hh = y := fun hh => by rw [List.getElem?_eq_getElem hh] at hy; exact Option.some.inj hy
  have hym : y ∈ openB s s.length := by rw [← hL]; exact List.mem_of_getElem? hy
  obtain ⟨hyi, hy1⟩ := (open_mem hT.d).1 hym
  have hlh := lo_lt_hi hy1
  have s1 := lo_range hT.d y
  have s2 := hi_range hT.d y
  have s3 := vals_span hT.d y
  obtain ⟨w, hw⟩ : ∃ w, w = hiB s y - loB s y := ⟨_, rfl⟩
  have hw0 : 0 < w := by omega
  have n0 := Int.emod_nonneg at' (show w ≠ 0 by omega)
  have n1 := Int.emod_lt_of_pos at' hw0
  have c1 := Int.lt_tmod_of_pos at' hw0
  have c2 := Int.tmod_lt_of_pos at' hw0
  have v0 : IntKind.i64.wrap (hiB s y - loB s y) = w := by rw [wrap64] <;> omega
  have v1 : IntKind.i64.wrap (at'.tmod w) = at'.tmod w := by rw [wrap64] <;> omega
  have v2 : IntKind.i64.wrap (at'.tmod w + w) = at'.tmod w + w := by rw [wrap64] <;> omega
  obtain ⟨j, hj⟩ : ∃ j, j = at' % w := ⟨_, rfl⟩
  have v3 : IntKind.i64.wrap ((at'.tmod w + w).tmod w) = j := by rw [tmod_add hw0, hj, wrap64] <;> omega
  have hwne : ¬ w = 0 := by omega
  have z4 : (at'.tmod w + w).tmod w = j := by rw [tmod_add hw0, hj]
  have hllz : ¬ (L.length : Int) = 0 := by omega
  have hpick := pick_at hT.d (by rw [← hL]; exact hql) (by rw [← hL]; exact hy) (show 0 ≤ j by omega) (show j < hiB s y - loB s y by omega)
  rw [← hL] at hpick
  have hmul : 0 ≤ (L.length : Int) * j ∧ (L.length : Int) * j ≤ 64 * 64 := ⟨Int.mul_nonneg (by omega) (by omega), Int.mul_le_mul (by omega) (by omega) (by omega) (by omega)⟩
  have u1 : IntKind.i64.wrap ((L.length : Int) * j) = L.length * j := by rw [wrap64] <;> omega
  have u2 : IntKind.i64.wrap ((q : Int) + L.length * j) = q + L.length * j := by rw [wrap64] <;> omega
  have q2 := pick_spec hT ((q : Int) + L.length * j) ⟨by omega, by omega⟩
  rw [hpick] at q2
  refine vc_cut (At [(4, V.i at'), (11, .ptr 1 1 0 0), (13, vInts L), (25, V.i q)] [B, ST s [], RT s [], ST a [], ST b []]) (by simp -dsimp [h, At, vInts, w1, w2, w3, z3, hllz, hne]) ?_
  try clear h
  rintro ⟨sl, hp, bs⟩ ⟨rfl, h⟩
  simp only [sls_cons, sls_one, sls_nil] at h
  refine vc_cut (At [(4, V.i at'), (11, .ptr 1 1 0 0), (13, vInts L), (25, V.i q), (26, V.i y)] [B, ST s [], RT s [], ST a [], ST b []]) (by simp -dsimp [h, At, vInts, hql, hyg]) ?_
  try clear h
  rintro ⟨sl, hp, bs⟩ ⟨rfl, h⟩
  simp only [sls_cons, sls_one, sls_nil] at h
  refine vc_cut (At [(4, V.i at'), (11, .ptr 1 1 0 0), (13, vInts L), (25, V.i q), (26, V.i y), (27, V.i w)] [B, ST s [], RT s [], ST a [], ST b []]) ?_ ?_
  · simp -dsimp [h]
    refine gcallm1 (hiT hT y) 1 (by simp -dsimp [h, addAll]) (by simp -dsimp [h]) (by simp) (by simp) (by simp) (by simp -dsimp [h, idx]) (by simp) ?_
    simp -dsimp [h]
    refine gcallm1 (loT hT y) 1 (by simp -dsimp [h, addAll]) (by simp -dsimp [h]) (by simp) (by simp) (by simp) (by simp -dsimp [h, idx]) (by simp) ?_
    simp -dsimp [h, v0, At]
  try clear h
  rintro ⟨sl, hp, bs⟩ ⟨rfl, h⟩
  simp only [sls_cons, sls_one, sls_nil] at h
  refine vc_cut (At [(11, .ptr 1 1 0 0), (13, vInts L), (25, V.i q), (26, V.i y), (28, V.i j)] [B, ST s [], RT s [], ST a [], ST b []]) (by simp -dsimp [h, At, v1, v2, v3, z4, hwne]) ?_
  try clear h
  rintro ⟨sl, hp, bs⟩ ⟨rfl, h⟩
  simp only [sls_cons, sls_one, sls_nil] at h
  refine vc_cut (At [(11, .ptr 1 1 0 0), (26, V.i y), (28, V.i j), (29, V.i y), (30, V.i (loB s y + 1 + j)), (31, .bool true)] [B, ST s [], RT s [], ST a [], ST b []]) ?_ ?_
  · simp -dsimp [h, vInts, u1, u2]
    refine gcallm1 (q2) 1 (by simp -dsimp [h, addAll]) (by simp -dsimp [h]) (by simp) (by simp) (by simp) (by simp -dsimp [h, idx]) (by simp) ?_
    simp -dsimp [h, pickV, At, vInts, u1, u2]
  try clear h
  rintro ⟨sl, hp, bs⟩ ⟨rfl, h⟩
  simp only [sls_cons, sls_one, sls_nil] at h
  have x1 : IntKind.i64.wrap (loB s y + 1) = loB s y + 1 := by rw [wrap64] <;> omega
  have x2 : IntKind.i64.wrap (loB s y + 1 + j) = loB s y + 1 + j := by rw [wrap64] <;> omega
  simp -dsimp [h]
  refine gcallm1 (loT hT y) 1 (by simp -dsimp [h, addAll]) (by simp -dsimp [h]) (by simp) (by simp) (by simp) (by simp -dsimp [h, idx]) (by simp) ?_
  simp -dsimp [h, x1, x2, hallmarklaw17_BranchParts.rs]
end Go.Abs.G
