import Derived.Test.YtkfpoacloidepaaC5
set_option linter.all false
namespace Go.Abs.G
open Go.Proofs
set_option linter.unusedVariables false

def kindTab : List (Int × Needs × FuncId) := [
  (1, ⟨true, false, false, false, false, false, true, true, false⟩, model_lin.id),
  (2, ⟨false, false, false, false, true, true, true, false, false⟩, model_kinds_1.id),
  (3, ⟨false, true, false, false, false, false, false, false, false⟩, model_allDiff.id),
  (4, ⟨false, false, true, false, true, true, false, false, false⟩, model_element.id),
  (5, ⟨false, true, false, false, false, true, false, false, false⟩, model_kinds_2.id),
  (6, ⟨false, true, false, false, false, true, false, false, false⟩, model_kinds_3.id),
  (7, ⟨true, false, false, false, true, false, true, false, false⟩, model_reif.id),
  (8, ⟨false, true, false, true, false, false, false, false, false⟩, model_table.id),
  (9, ⟨false, true, false, false, false, false, true, true, true⟩, model_count.id)]
def kindEnts : List (V × V) := kindTab.map fun e => (V.i e.1, .agg (e.2.1.cells e.2.2))
def kindsV : V := .mview kindEnts

theorem kindEnts_key : ∀ e ∈ kindEnts, e.1.isKey .i64 = true := by
  intro e he
  obtain ⟨t, _, rfl⟩ := List.mem_map.1 he
  rfl

theorem kindEnts_get (k : Int) : (needs k = none ∧ getE kindEnts k = none) ∨ ∃ n f, needs k = some n ∧ (k, n, f) ∈ kindTab ∧ getE kindEnts k = some (.agg (n.cells f)) := by
  by_cases h1 : k = 1
  · subst h1; exact .inr ⟨_, _, rfl, by simp [kindTab], rfl⟩
  by_cases h2 : k = 2
  · subst h2; exact .inr ⟨_, _, rfl, by simp [kindTab], rfl⟩
  by_cases h3 : k = 3
  · subst h3; exact .inr ⟨_, _, rfl, by simp [kindTab], rfl⟩
  by_cases h4 : k = 4
  · subst h4; exact .inr ⟨_, _, rfl, by simp [kindTab], rfl⟩
  by_cases h5 : k = 5
  · subst h5; exact .inr ⟨_, _, rfl, by simp [kindTab], rfl⟩
  by_cases h6 : k = 6
  · subst h6; exact .inr ⟨_, _, rfl, by simp [kindTab], rfl⟩
  by_cases h7 : k = 7
  · subst h7; exact .inr ⟨_, _, rfl, by simp [kindTab], rfl⟩
  by_cases h8 : k = 8
  · subst h8; exact .inr ⟨_, _, rfl, by simp [kindTab], rfl⟩
  by_cases h9 : k = 9
  · subst h9; exact .inr ⟨_, _, rfl, by simp [kindTab], rfl⟩
  · refine .inl ⟨by simp [needs, *], ?_⟩
    simp [kindEnts, kindTab, getE]
    omega

theorem kinds_spec : Pf Try.prog model_kinds.id [] kindsV := by
  refine DC.of model_kinds.ok (by simp) ?_
  simp [model_kinds.ir, model_kinds.rs, kindsV, kindEnts, kindTab, Needs.cells, V.isKey]

theorem con1_spec (x vars : Int) : Pf Try.prog model_con_1.id [V.i x, .ref [V.i vars] 0] (.bool (noB vars x)) := by
  refine DC.of model_con_1.ok (by simp) ?_
  by_cases h : x < 0 <;> simp [model_con_1.ir, model_con_1.rs, noB, h]

def zeroNeeds : List V := [.bool false, .bool false, .bool false, .bool false, .bool false, .bool false, .bool false, .bool false, .bool false, .a .nilFunc]

theorem con_look (c : Con) (vars : Int) : vc Try.prog (.reg 1 [.o 1 (.lt (some 12) (.fad (.tmp 2) 0)),
    .o 2 (.lt (some 13) (.ld false 1 (.tmp 12))),
    .o 0 (.call (some 11) model_kinds.id []),
    .o 3 (.lt (some 14) (.lkp true .i64 (.agg [.a (.bool false), .a (.bool false), .a (.bool false), .a (.bool false), .a (.bool false), .a (.bool false), .a (.bool false), .a (.bool false), .a (.bool false), .a (.nilFunc)]) (.tmp 11) (.tmp 13))),
    .o 4 (.lt (some 10) (.mov (.tmp 14))),
    .o 5 (.lt (some 15) (.ext (.tmp 10) 0)),
    .o 6 (.lt (some 16) (.ext (.tmp 10) 1)),
    .o 7 (.alloc (some 5) 0 10 [.a (.bool false), .a (.bool false), .a (.bool false), .a (.bool false), .a (.bool false), .a (.bool false), .a (.bool false), .a (.bool false), .a (.bool false), .a (.nilFunc)]),
    .o 8 (.store [] 10 (.tmp 5) (.tmp 15)),
    .o 9 (.lt (some 6) (.mov (.tmp 16))),
    .g (.keep [2, 3, 5, 6])]) (fun e s => match e with
      | .norm => gt s.sl 2 = .ptr 0 1 0 0 ∧ gt s.sl 3 = .ptr 1 1 0 0 ∧ gt s.sl 5 = .ptr 2 1 0 0 ∧ ((needs c.kind = none ∧ gt s.sl 6 = .bool false ∧ s.hp = [.mem false [] [c.cells], .mem false [] [[V.i vars]], .mem false [] [zeroNeeds]]) ∨
          ∃ n f, needs c.kind = some n ∧ gt s.sl 6 = .bool true ∧ s.hp = [.mem false [] [c.cells], .mem false [] [[V.i vars]], .mem false [] [n.cells f]])
      | _ => False) ⟨up (up e0 3 (.ptr 1 1 0 0)) 2 (.ptr 0 1 0 0), [.mem false [] [c.cells], .mem false [] [[V.i vars]]], 0⟩ := by
  simp [Con.cells, vTerms, vInts, vIntss]
  refine kinds_spec.use ?_
  have hk := kindEnts_key
  rcases kindEnts_get c.kind with ⟨h1, h2⟩ | ⟨n, f, h1, h2, h3⟩
  · simp [kindsV, h1, h2, zeroNeeds]
    exact ⟨fun a b h => hk _ h, rfl⟩
  · simp [kindsV, h1, h3, Needs.cells]
    exact ⟨fun a b h => hk _ h, rfl⟩

def conSt (c : Con) (vars : Int) (n : Needs) (f : FuncId) (s : St) : Prop :=
  gt s.sl 2 = .ptr 0 1 0 0 ∧ gt s.sl 3 = .ptr 1 1 0 0 ∧ gt s.sl 5 = .ptr 2 1 0 0 ∧ s.hp = [.mem false [] [c.cells], .mem false [] [[V.i vars]], .mem false [] [n.cells f]]

def conSt2 (c : Con) (vars : Int) (n : Needs) (f : FuncId) (s : St) : Prop :=
  gt s.sl 2 = .ptr 0 1 0 0 ∧ gt s.sl 5 = .ptr 2 1 0 0 ∧ gt s.sl 7 = .bool (badVarB vars c.terms) ∧ gt s.sl 8 = .bool (badCoefB c.terms) ∧ gt s.sl 9 = .fn (.func model_con_1.id) [] [.ptr 1 1 0 0] ∧
    s.hp = [.mem false [] [c.cells], .mem false [] [[V.i vars]], .mem false [] [n.cells f]]

theorem con_spec (c : Con) (vars : Int) (hc : okCon c) : Pf Try.prog model_con.id [.agg c.cells, V.i vars] (V.i (conB c vars)) := by
  have hm : (maxLen : Int) ≤ 9223372036854775807 := by decide
  obtain ⟨_, _, ⟨k3, _⟩, _, _, _, _, ⟨k8, k8'⟩, ⟨k9, k9'⟩, k10, k11⟩ := hc
  refine DC.of model_con.ok (by simp) ?_
  unfold model_con.ir
  refine vc_cut (fun s => s = ⟨up (up e0 3 (.ptr 1 1 0 0)) 2 (.ptr 0 1 0 0), [.mem false [] [c.cells], .mem false [] [[V.i vars]]], 0⟩) (by simp [Con.cells, vTerms, vInts, vIntss]) ?_
  rintro _ rfl
  refine vc_cut _ (vc_mono (fun e s hs => by cases e <;> first | exact hs | exact hs.elim) (con_look c vars)) ?_
  rintro ⟨sl, hp, bs⟩ ⟨h2, h3, h5, ⟨hn, h6, rfl⟩ | ⟨n, f, hn, h6, rfl⟩⟩
  · simp [h2, h3, h5, h6, hn, conB, model_con.rs]
  have hcB : conB c vars = conN c vars n := by simp [conB, hn]
  rw [hcB]
  -- the operator
  refine vc_cut (fun s => conSt c vars n f s ∧ (n.op && (decide (c.op < 1) || decide (3 < c.op))) = false) ?_ ?_
  · cases ho : n.op
    · simp [h2, h3, h5, h6, conSt, Needs.cells, ho, Con.cells, vTerms, vInts, vIntss]
    · by_cases h1 : c.op < 1
      · simp [h2, h3, h5, h6, conSt, Needs.cells, ho, Con.cells, vTerms, vInts, vIntss, h1, conN, model_con.rs]
      · by_cases h1' : 3 < c.op <;> simp [h2, h3, h5, h6, conSt, Needs.cells, ho, Con.cells, vTerms, vInts, vIntss, h1, h1', conN, model_con.rs] <;> omega
  rintro ⟨sl, hp, bs⟩ ⟨⟨h2, h3, h5, rfl⟩, b1⟩
  refine vc_cut (fun s => conSt c vars n f s ∧ gt s.sl 7 = .bool (badVarB vars c.terms) ∧ gt s.sl 8 = .bool (badCoefB c.terms)) ?_ ?_
  · simp [h2, h3, h5, Con.cells, vTerms, vInts, vIntss]
    refine (terms_spec c.terms vars k3).use ?_
    simp [conSt, Con.cells, vTerms, vInts, vIntss]
  rintro ⟨sl, hp, bs⟩ ⟨⟨h2, h3, h5, rfl⟩, h7, h8⟩
  refine vc_cut (fun s => conSt2 c vars n f s) ?_ ?_
  · simp [h2, h3, h5, h7, h8, conSt2]
  rintro ⟨sl, hp, bs⟩ ⟨h2, h5, h7, h8, h9, rfl⟩
  refine vc_cut (fun s => conN c vars n = 0) (vc_block_of ?_) ?_
  · refine vc_cut (fun s => conSt2 c vars n f s ∧ gt s.sl 41 = .bool (fieldB c n)) ?_ ?_
    · simp [h2, h5, Needs.cells, Con.cells, vTerms, vInts, vIntss]
      refine (field_spec c n f).use ?_
      simp [h2, h5, h7, h8, h9, conSt2, Needs.cells, Con.cells, vTerms, vInts, vIntss]
    rintro ⟨sl, hp, bs⟩ ⟨⟨h2, h5, h7, h8, h9, rfl⟩, h41⟩
    cases b2 : fieldB c n
    case true => simp [h41, b2, model_con.rs, conN, b1]
    rw [b2] at h41
    rw [vc_cond_false (show St.ev _ (.tmp 41) = _ from h41)]
    refine vc_cut (fun s => conSt2 c vars n f s ∧ gt s.sl 45 = .bool (!countsB n.terms c.terms.length || !countsB n.xs c.xs.length || !countsB n.table c.table.length || wideB c n)) ?_ ?_
    · simp [h2, h5, h7, h8, h9, Needs.cells, Con.cells, vTerms, vInts, vIntss]
      refine (counts_spec n.terms c.terms.length).use ?_
      cases countsB n.terms c.terms.length
      · simp [conSt2, h2, h5, h7, h8, h9, Needs.cells, Con.cells, vTerms, vInts, vIntss]
      simp [h2, h5, h7, h8, h9, Needs.cells, Con.cells, vTerms, vInts, vIntss]
      refine (counts_spec n.xs c.xs.length).use ?_
      cases countsB n.xs c.xs.length
      · simp [conSt2, h2, h5, h7, h8, h9, Needs.cells, Con.cells, vTerms, vInts, vIntss]
      simp [h2, h5, h7, h8, h9, Needs.cells, Con.cells, vTerms, vInts, vIntss]
      refine (counts_spec n.table c.table.length).use ?_
      cases countsB n.table c.table.length
      · simp [conSt2, h2, h5, h7, h8, h9, Needs.cells, Con.cells, vTerms, vInts, vIntss]
      simp [h2, h5, h7, h8, h9, Needs.cells, Con.cells, vTerms, vInts, vIntss]
      refine (wide_spec c n f k10).use ?_
      simp [conSt2, h2, h5, h7, h8, h9, Needs.cells, Con.cells, vTerms, vInts, vIntss]
    rintro ⟨sl, hp, bs⟩ ⟨⟨h2, h5, h7, h8, h9, rfl⟩, h45⟩
    cases b3 : (!countsB n.terms c.terms.length || !countsB n.xs c.xs.length || !countsB n.table c.table.length || wideB c n)
    case true => rw [b3] at h45; simp [h45, model_con.rs, conN, b1, b2, b3]
    rw [b3] at h45
    rw [vc_cond_false (show St.ev _ (.tmp 45) = _ from h45)]
    refine vc_cut (fun s => gt s.sl 2 = .ptr 0 1 0 0 ∧ gt s.sl 8 = .bool (badCoefB c.terms) ∧ s.hp = [.mem false [] [c.cells], .mem false [] [[V.i vars]], .mem false [] [n.cells f]] ∧
      gt s.sl 70 = .bool (badVarB vars c.terms || (n.x && noB vars c.x) || (n.y && noB vars c.y) || c.xs.any (noB vars))) ?_ ?_
    · cases b0 : badVarB vars c.terms
      case true => rw [b0] at h7; simp [h2, h5, h7, h8, h9, Needs.cells, Con.cells, vTerms, vInts, vIntss]
      rw [b0] at h7
      have last : DP Try.prog slices_ContainsFunc_int_int.id [vInts c.xs, .fn (.func model_con_1.id) [] [.ref [V.i vars] 0]] fun r => r = .bool (c.xs.any (noB vars)) :=
        contains_int_spec (p := noB vars) (cap := [.ref [V.i vars] 0]) (by simp) (by simp) (fun t _ => con1_spec t vars) k8
      have last' : ∀ Q : V → Prop, Q (.bool (c.xs.any (noB vars))) → DP Try.prog slices_ContainsFunc_int_int.id [.view 1 (List.map (fun n => [V.i n]) c.xs), .fn (.func model_con_1.id) [] [.ref [V.i vars] 0]] Q := fun Q hq => DP.mono last fun r hr => by rw [hr]; exact hq
      have mid : ∀ b : Bool, (n.y && noB vars c.y) = b → True := fun _ _ => trivial
      cases hx : n.x <;> cases hy : n.y <;> simp [h2, h5, h7, h8, h9, Needs.cells, Con.cells, vTerms, vInts, vIntss, hx, hy]
      · exact last' _ (by simp)
      · refine (con1_spec c.y vars).use ?_
        cases noB vars c.y <;> simp
        exact last' _ (by simp)
      · refine (con1_spec c.x vars).use ?_
        cases noB vars c.x <;> simp
        exact last' _ (by simp)
      · refine (con1_spec c.x vars).use ?_
        cases noB vars c.x <;> simp
        refine (con1_spec c.y vars).use ?_
        cases noB vars c.y <;> simp
        exact last' _ (by simp)
    rintro ⟨sl, hp, bs⟩ ⟨h2, h8, rfl, h70⟩
    cases b4 : (badVarB vars c.terms || (n.x && noB vars c.x) || (n.y && noB vars c.y) || c.xs.any (noB vars))
    case true => rw [b4] at h70; simp [h70, model_con.rs, conN, b1, b2, b3, b4]
    rw [b4] at h70
    rw [vc_cond_false (show St.ev _ (.tmp 70) = _ from h70)]
    refine vc_cut (fun s => gt s.sl 2 = .ptr 0 1 0 0 ∧ gt s.sl 92 = .bool (badCoefB c.terms) ∧ s.hp = [.mem false [] [c.cells], .mem false [] [[V.i vars]], .mem false [] [n.cells f]]) (by simp [h2, h8]) ?_
    rintro ⟨sl, hp, bs⟩ ⟨h2, h92, rfl⟩
    cases b5 : badCoefB c.terms
    case true => simp [h92, model_con.rs, conN, b1, b2, b3, b4, b5]
    rw [b5] at h92
    rw [vc_cond_false (show St.ev _ (.tmp 92) = _ from h92)]
    refine vc_cut (fun s => gt s.sl 94 = .bool (!withinB c.k 1000000000 || !withinB c.v 1000000000 || greatB c.table || c.rows.any greatB)) ?_ ?_
    · simp [h2, Needs.cells, Con.cells, vTerms, vInts, vIntss]
      refine (within_spec c.k 1000000000 (by decide) (by decide)).use ?_
      cases withinB c.k 1000000000
      · simp
      simp [h2, Needs.cells, Con.cells, vTerms, vInts, vIntss]
      refine (within_spec c.v 1000000000 (by decide) (by decide)).use ?_
      cases withinB c.v 1000000000
      · simp
      simp [h2, Needs.cells, Con.cells, vTerms, vInts, vIntss]
      refine (great_spec c.table k9).use ?_
      cases greatB c.table
      case true => simp
      simp [h2, Needs.cells, Con.cells, vTerms, vInts, vIntss]
      refine (contains_ints_spec (by simp) (by simp) (fun t ht => great_spec t (k11 t ht).1) k10).use ?_
      simp
    rintro ⟨sl, hp, bs⟩ h94
    cases b6 : (!withinB c.k 1000000000 || !withinB c.v 1000000000 || greatB c.table || c.rows.any greatB)
    case true => rw [b6] at h94; simp [h94, model_con.rs, conN, b1, b2, b3, b4, b5, b6]
    rw [b6] at h94
    simp [h94, conN, b1, b2, b3, b4, b5, b6]
  · rintro ⟨sl, hp, bs⟩ h0
    simp [h0, model_con.rs]
end Go.Abs.G
