import Derived.Test.YtgbkambljlijmaaGreatRmV4
import Derived.Sort.AssemblyPlain
import Derived.Sort.LotD5
set_option linter.all false
namespace Go.Abs.G
open Go.Proofs
attribute [local simp] I.vc sub merge place
set_option linter.unusedVariables false

def kindTab : List (Int × Needs × FuncId) := [
  (1, ⟨true, false, false, false, false, false, true, true, false⟩, model_lin.id),
  (2, ⟨false, false, false, false, true, true, true, false, false⟩, model_kinds_1.id),
  (3, ⟨false, true, false, false, false, false, false, false, false⟩, model_allDiff.id),
  (4, ⟨false, false, true, false, true, true, false, false, false⟩, model_element.id),
  (5, ⟨false, true, false, false, false, true, false, false, false⟩, model_kinds_2.id),
  (6, ⟨false, true, false, false, false, true, false, false, false⟩, model_kinds_3.id),
  (7, ⟨true, false, false, false, true, false, true, false, false⟩, model_reif.id),
  (8, ⟨false, true, false, true, false, false, false, false, false⟩, model_table.id),
  (9, ⟨false, true, false, false, false, false, true, true, true⟩, model_count.id)]
def kindEnts : List (V × V) := kindTab.map fun e => (V.i e.1, .agg (e.2.1.cells e.2.2))
def kindsV : V := .mview kindEnts

theorem kindEnts_key : ∀ e ∈ kindEnts, e.1.isKey .i64 = true := by
  intro e he
  obtain ⟨t, _, rfl⟩ := List.mem_map.1 he
  rfl

theorem kindEnts_get (k : Int) : (needs k = none ∧ getE kindEnts k = none) ∨ ∃ n f, needs k = some n ∧ (k, n, f) ∈ kindTab ∧ getE kindEnts k = some (.agg (n.cells f)) := by
  by_cases h1 : k = 1
  · subst h1; exact .inr ⟨_, _, rfl, by simp [kindTab], rfl⟩
  by_cases h2 : k = 2
  · subst h2; exact .inr ⟨_, _, rfl, by simp [kindTab], rfl⟩
  by_cases h3 : k = 3
  · subst h3; exact .inr ⟨_, _, rfl, by simp [kindTab], rfl⟩
  by_cases h4 : k = 4
  · subst h4; exact .inr ⟨_, _, rfl, by simp [kindTab], rfl⟩
  by_cases h5 : k = 5
  · subst h5; exact .inr ⟨_, _, rfl, by simp [kindTab], rfl⟩
  by_cases h6 : k = 6
  · subst h6; exact .inr ⟨_, _, rfl, by simp [kindTab], rfl⟩
  by_cases h7 : k = 7
  · subst h7; exact .inr ⟨_, _, rfl, by simp [kindTab], rfl⟩
  by_cases h8 : k = 8
  · subst h8; exact .inr ⟨_, _, rfl, by simp [kindTab], rfl⟩
  by_cases h9 : k = 9
  · subst h9; exact .inr ⟨_, _, rfl, by simp [kindTab], rfl⟩
  · refine .inl ⟨by simp [needs, *], ?_⟩
    simp [kindEnts, kindTab, getE]
    omega

theorem kinds_spec : Pf Tryz.prog model_kinds.id [] kindsV := by
  refine DC.of model_kinds.ok (by simp) ?_
  simp [model_kinds.ir, model_kinds.rs, kindsV, kindEnts, kindTab, Needs.cells, V.isKey]

theorem con1_spec (x vars : Int) : Pf Tryz.prog model_con_1.id [V.i x, .ref [V.i vars] 0] (.bool (noB vars x)) := by
  refine DC.of model_con_1.ok (by simp) ?_
  by_cases h : x < 0 <;> simp [model_con_1.ir, model_con_1.rs, noB, h]

def zeroNeeds : List V := [.bool false, .bool false, .bool false, .bool false, .bool false, .bool false, .bool false, .bool false, .bool false, .a .nilFunc]

theorem con_look (c : Con) (vars : Int) : vc Tryz.prog (.reg 1 [.o 1 (.lt (some 12) (.fad (.tmp 2) 0)),
    .o 2 (.lt (some 13) (.ld false 1 (.tmp 12))),
    .o 0 (.call (some 11) model_kinds.id []),
    .o 3 (.lt (some 14) (.lkp true .i64 (.agg [.a (.bool false), .a (.bool false), .a (.bool false), .a (.bool false), .a (.bool false), .a (.bool false), .a (.bool false), .a (.bool false), .a (.bool false), .a (.nilFunc)]) (.tmp 11) (.tmp 13))),
    .o 4 (.lt (some 10) (.mov (.tmp 14))),
    .o 5 (.lt (some 15) (.ext (.tmp 10) 0)),
    .o 6 (.lt (some 16) (.ext (.tmp 10) 1)),
    .o 7 (.alloc (some 5) 0 10 [.a (.bool false), .a (.bool false), .a (.bool false), .a (.bool false), .a (.bool false), .a (.bool false), .a (.bool false), .a (.bool false), .a (.bool false), .a (.nilFunc)]),
    .o 8 (.store [] 10 (.tmp 5) (.tmp 15)),
    .o 9 (.lt (some 6) (.mov (.tmp 16))),
    .g (.keep [2, 3, 5, 6])]) (fun e s => match e with
      | .norm => gt s.sl 2 = .ptr 0 1 0 0 ∧ gt s.sl 3 = .ptr 1 1 0 0 ∧ gt s.sl 5 = .ptr 2 1 0 0 ∧ ((needs c.kind = none ∧ gt s.sl 6 = .bool false ∧ s.hp = [.mem false [] [c.cells], .mem false [] [[V.i vars]], .mem false [] [zeroNeeds]]) ∨
          ∃ n f, needs c.kind = some n ∧ gt s.sl 6 = .bool true ∧ s.hp = [.mem false [] [c.cells], .mem false [] [[V.i vars]], .mem false [] [n.cells f]])
      | _ => False) ⟨up (up e0 3 (.ptr 1 1 0 0)) 2 (.ptr 0 1 0 0), [.mem false [] [c.cells], .mem false [] [[V.i vars]]], 0⟩ := by
  simp [Con.cells, vTerms, vInts, vIntss]
  refine kinds_spec.use ?_
  have hk := kindEnts_key
  rcases kindEnts_get c.kind with ⟨h1, h2⟩ | ⟨n, f, h1, h2, h3⟩
  · simp [kindsV, h1, h2, zeroNeeds]
    exact ⟨fun a b h => hk _ h, rfl⟩
  · simp [kindsV, h1, h3, Needs.cells]
    exact ⟨fun a b h => hk _ h, rfl⟩

def conSt (c : Con) (vars : Int) (n : Needs) (f : FuncId) (s : St) : Prop :=
  gt s.sl 2 = .ptr 0 1 0 0 ∧ gt s.sl 3 = .ptr 1 1 0 0 ∧ gt s.sl 5 = .ptr 2 1 0 0 ∧ s.hp = [.mem false [] [c.cells], .mem false [] [[V.i vars]], .mem false [] [n.cells f]]

def conSt2 (c : Con) (vars : Int) (n : Needs) (f : FuncId) (s : St) : Prop :=
  gt s.sl 2 = .ptr 0 1 0 0 ∧ gt s.sl 5 = .ptr 2 1 0 0 ∧ gt s.sl 7 = .bool (badVarB vars c.terms) ∧ gt s.sl 8 = .bool (badCoefB c.terms) ∧ gt s.sl 9 = .fn (.func model_con_1.id) [] [.ptr 1 1 0 0] ∧
    s.hp = [.mem false [] [c.cells], .mem false [] [[V.i vars]], .mem false [] [n.cells f]]

theorem con_spec (c : Con) (vars : Int) (hc : okCon c) : Pf Tryz.prog model_con.id [.agg c.cells, V.i vars] (V.i (conB c vars)) := by
  have hm : (maxLen : Int) ≤ 9223372036854775807 := by decide
  obtain ⟨_, _, ⟨k3, _⟩, _, _, _, _, ⟨k8, k8'⟩, ⟨k9, k9'⟩, k10, k11⟩ := hc
  refine DC.of model_con.ok (by simp) ?_
  unfold model_con.ir
  refine vc_cut (fun s => s = ⟨up (up e0 3 (.ptr 1 1 0 0)) 2 (.ptr 0 1 0 0), [.mem false [] [c.cells], .mem false [] [[V.i vars]]], 0⟩) (by simp [Con.cells, vTerms, vInts, vIntss]) ?_
  rintro _ rfl
  refine vc_cut _ (vc_mono (fun e s hs => by cases e <;> first | exact hs | exact hs.elim) (con_look c vars)) ?_
  rintro ⟨sl, hp, bs⟩ ⟨h2, h3, h5, ⟨hn, h6, rfl⟩ | ⟨n, f, hn, h6, rfl⟩⟩
  · simp [h2, h3, h5, h6, hn, conB, model_con.rs]
  have hcB : conB c vars = conN c vars n := by simp [conB, hn]
  rw [hcB]
  -- the operator
  refine vc_cut (fun s => conSt c vars n f s ∧ (n.op && (decide (c.op < 1) || decide (3 < c.op))) = false) ?_ ?_
  · cases ho : n.op
    · simp [h2, h3, h5, h6, conSt, Needs.cells, ho, Con.cells, vTerms, vInts, vIntss]
    · by_cases h1 : c.op < 1
      · simp [h2, h3, h5, h6, conSt, Needs.cells, ho, Con.cells, vTerms, vInts, vIntss, h1, conN, model_con.rs]
      · by_cases h1' : 3 < c.op <;> simp [h2, h3, h5, h6, conSt, Needs.cells, ho, Con.cells, vTerms, vInts, vIntss, h1, h1', conN, model_con.rs] <;> omega
  rintro ⟨sl, hp, bs⟩ ⟨⟨h2, h3, h5, rfl⟩, b1⟩
  refine vc_cut (fun s => conSt c vars n f s ∧ gt s.sl 7 = .bool (badVarB vars c.terms) ∧ gt s.sl 8 = .bool (badCoefB c.terms)) ?_ ?_
  · simp [h2, h3, h5, Con.cells, vTerms, vInts, vIntss]
    refine (terms_spec c.terms vars k3).use ?_
    simp [conSt, Con.cells, vTerms, vInts, vIntss]
  rintro ⟨sl, hp, bs⟩ ⟨⟨h2, h3, h5, rfl⟩, h7, h8⟩
  refine vc_cut (fun s => conSt2 c vars n f s) ?_ ?_
  · simp [h2, h3, h5, h7, h8, conSt2]
  rintro ⟨sl, hp, bs⟩ ⟨h2, h5, h7, h8, h9, rfl⟩
  refine vc_cut (fun s => conN c vars n = 0) (vc_block_of ?_) ?_
  · refine vc_cut (fun s => conSt2 c vars n f s ∧ gt s.sl 41 = .bool (fieldB c n)) ?_ ?_
    · simp [h2, h5, Needs.cells, Con.cells, vTerms, vInts, vIntss]
      refine (field_spec c n f).use ?_
      simp [h2, h5, h7, h8, h9, conSt2, Needs.cells, Con.cells, vTerms, vInts, vIntss]
    rintro ⟨sl, hp, bs⟩ ⟨⟨h2, h5, h7, h8, h9, rfl⟩, h41⟩
    cases b2 : fieldB c n
    case true => simp [h41, b2, model_con.rs, conN, b1]
    rw [b2] at h41
    rw [vc_cond_false (show St.ev _ (.tmp 41) = _ from h41)]
    refine vc_cut (fun s => conSt2 c vars n f s ∧ gt s.sl 45 = .bool (!countsB n.terms c.terms.length || !countsB n.xs c.xs.length || !countsB n.table c.table.length || wideB c n)) ?_ ?_
    · simp [h2, h5, h7, h8, h9, Needs.cells, Con.cells, vTerms, vInts, vIntss]
      refine (counts_spec n.terms c.terms.length).use ?_
      cases countsB n.terms c.terms.length
      · simp [conSt2, h2, h5, h7, h8, h9, Needs.cells, Con.cells, vTerms, vInts, vIntss]
      simp [h2, h5, h7, h8, h9, Needs.cells, Con.cells, vTerms, vInts, vIntss]
      refine (counts_spec n.xs c.xs.length).use ?_
      cases countsB n.xs c.xs.length
      · simp [conSt2, h2, h5, h7, h8, h9, Needs.cells, Con.cells, vTerms, vInts, vIntss]
      simp [h2, h5, h7, h8, h9, Needs.cells, Con.cells, vTerms, vInts, vIntss]
      refine (counts_spec n.table c.table.length).use ?_
      cases countsB n.table c.table.length
      · simp [conSt2, h2, h5, h7, h8, h9, Needs.cells, Con.cells, vTerms, vInts, vIntss]
      simp [h2, h5, h7, h8, h9, Needs.cells, Con.cells, vTerms, vInts, vIntss]
      refine (wide_spec c n f k10).use ?_
      simp [conSt2, h2, h5, h7, h8, h9, Needs.cells, Con.cells, vTerms, vInts, vIntss]
    rintro ⟨sl, hp, bs⟩ ⟨⟨h2, h5, h7, h8, h9, rfl⟩, h45⟩
    cases b3 : (!countsB n.terms c.terms.length || !countsB n.xs c.xs.length || !countsB n.table c.table.length || wideB c n)
    case true => rw [b3] at h45; simp [h45, model_con.rs, conN, b1, b2, b3]
    rw [b3] at h45
    rw [vc_cond_false (show St.ev _ (.tmp 45) = _ from h45)]
    refine vc_cut (fun s => gt s.sl 2 = .ptr 0 1 0 0 ∧ gt s.sl 8 = .bool (badCoefB c.terms) ∧ s.hp = [.mem false [] [c.cells], .mem false [] [[V.i vars]], .mem false [] [n.cells f]] ∧
      gt s.sl 70 = .bool (badVarB vars c.terms || (n.x && noB vars c.x) || (n.y && noB vars c.y) || c.xs.any (noB vars))) ?_ ?_
    · cases b0 : badVarB vars c.terms
      case true => rw [b0] at h7; simp [h2, h5, h7, h8, h9, Needs.cells, Con.cells, vTerms, vInts, vIntss]
      rw [b0] at h7
      have last : DP Tryz.prog slices_ContainsFunc_Lint_int.id [vInts c.xs, .fn (.func model_con_1.id) [] [.ref [V.i vars] 0]] fun r => r = .bool (c.xs.any (noB vars)) :=
        contains_int_spec (p := noB vars) (cap := [.ref [V.i vars] 0]) (by simp) (by simp) (fun t _ => con1_spec t vars) k8
      have last' : ∀ Q : V → Prop, Q (.bool (c.xs.any (noB vars))) → DP Tryz.prog slices_ContainsFunc_Lint_int.id [.view 1 (List.map (fun n => [V.i n]) c.xs), .fn (.func model_con_1.id) [] [.ref [V.i vars] 0]] Q := fun Q hq => DP.mono last fun r hr => by rw [hr]; exact hq
      have mid : ∀ b : Bool, (n.y && noB vars c.y) = b → True := fun _ _ => trivial
      cases hx : n.x <;> cases hy : n.y <;> simp [h2, h5, h7, h8, h9, Needs.cells, Con.cells, vTerms, vInts, vIntss, hx, hy]
      · exact last' _ (by simp)
      · refine (con1_spec c.y vars).use ?_
        cases noB vars c.y <;> simp
        exact last' _ (by simp)
      · refine (con1_spec c.x vars).use ?_
        cases noB vars c.x <;> simp
        exact last' _ (by simp)
      · refine (con1_spec c.x vars).use ?_
        cases noB vars c.x <;> simp
        refine (con1_spec c.y vars).use ?_
        cases noB vars c.y <;> simp
        exact last' _ (by simp)
    rintro ⟨sl, hp, bs⟩ ⟨h2, h8, rfl, h70⟩
    cases b4 : (badVarB vars c.terms || (n.x && noB vars c.x) || (n.y && noB vars c.y) || c.xs.any (noB vars))
    case true => rw [b4] at h70; simp [h70, model_con.rs, conN, b1, b2, b3, b4]
    rw [b4] at h70
    rw [vc_cond_false (show St.ev _ (.tmp 70) = _ from h70)]
    refine vc_cut (fun s => gt s.sl 2 = .ptr 0 1 0 0 ∧ gt s.sl 92 = .bool (badCoefB c.terms) ∧ s.hp = [.mem false [] [c.cells], .mem false [] [[V.i vars]], .mem false [] [n.cells f]]) (by simp [h2, h8]) ?_
    rintro ⟨sl, hp, bs⟩ ⟨h2, h92, rfl⟩
    cases b5 : badCoefB c.terms
    case true => simp [h92, model_con.rs, conN, b1, b2, b3, b4, b5]
    rw [b5] at h92
    rw [vc_cond_false (show St.ev _ (.tmp 92) = _ from h92)]
    refine vc_cut (fun s => gt s.sl 94 = .bool (!withinB c.k 1000000000 || !withinB c.v 1000000000 || greatB c.table || c.rows.any greatB)) ?_ ?_
    · simp [h2, Needs.cells, Con.cells, vTerms, vInts, vIntss]
      refine (within_spec c.k 1000000000 (by decide) (by decide)).use ?_
      cases withinB c.k 1000000000
      · simp
      simp [h2, Needs.cells, Con.cells, vTerms, vInts, vIntss]
      refine (within_spec c.v 1000000000 (by decide) (by decide)).use ?_
      cases withinB c.v 1000000000
      · simp
      simp [h2, Needs.cells, Con.cells, vTerms, vInts, vIntss]
      refine (great_spec c.table k9).use ?_
      cases greatB c.table
      case true => simp
      simp [h2, Needs.cells, Con.cells, vTerms, vInts, vIntss]
      refine (contains_ints_spec (by simp) (by simp) (fun t ht => great_spec t (k11 t ht).1) k10).use ?_
      simp
    rintro ⟨sl, hp, bs⟩ h94
    cases b6 : (!withinB c.k 1000000000 || !withinB c.v 1000000000 || greatB c.table || c.rows.any greatB)
    case true => rw [b6] at h94; simp [h94, model_con.rs, conN, b1, b2, b3, b4, b5, b6]
    rw [b6] at h94
    simp [h94, conN, b1, b2, b3, b4, b5, b6]
  · rintro ⟨sl, hp, bs⟩ h0
    simp [h0, model_con.rs]
end Go.Abs.G



namespace Go.Abs.G
open Go.Proofs
attribute [local simp] I.vc sub merge place
set_option linter.unusedVariables false

def sitLeft : Heap → Nat
  | [.sit s pos] => s.size - pos
  | _ => 0
attribute [simp] sitLeft

end Go.Abs.G



namespace Go.Abs.G
open Go.Proofs
attribute [local simp] I.vc sub merge place
set_option linter.unusedVariables false
set_option linter.unusedSimpArgs false

theorem sized_spec (l : List Int) (hl : l.length ≤ maxLen) : Pf Tryz.prog model_sized.id [vInts l] (.bool (!greatB l)) := by
  refine DC.of model_sized.ok (by simp) ?_
  simp [model_sized.ir, model_sized.rs, vInts]
  exact (great_spec l hl).use (by simp)
end Go.Abs.G


namespace Go.Abs.G
open Go.Proofs
set_option linter.unusedVariables false
set_option linter.unusedSimpArgs false
attribute [local simp] I.vc sub merge place

def Dom.add (d : Dom) (k : Nat) : Dom := if k < 32 then { d with a := sett d.a k } else { d with b := sett d.b (k - 32) }
def fillTo (d : Dom) : Nat → Dom
  | 0 => d
  | n + 1 => (fillTo d n).add n
theorem add_width (d : Dom) (k : Nat) : (d.add k).width = d.width := by unfold Dom.add; split <;> rfl
theorem add_ok {d : Dom} (k : Nat) (h : d.ok) : (d.add k).ok := by
  unfold Dom.add; split
  · exact ⟨h.f, h.w, sett_lt _ _, h.b⟩
  · exact ⟨h.f, h.w, h.a, sett_lt _ _⟩
theorem fillTo_ok {d : Dom} (h : d.ok) : ∀ n, (fillTo d n).ok
  | 0 => h
  | n + 1 => add_ok _ (fillTo_ok h n)
theorem fillTo_width (d : Dom) : ∀ n, (fillTo d n).width = d.width
  | 0 => rfl
  | n + 1 => by simp [fillTo, add_width, fillTo_width d n]
def dom0 (v : Var) : Dom := ⟨v.lo, (v.hi - v.lo + 1).toNat, 0, 0⟩
def domOf (v : Var) : Dom := fillTo (dom0 v) (dom0 v).width
theorem dom0_ok {v : Var} (h : VarOk v) : (dom0 v).ok := by
  obtain ⟨h1, h2, h3, h4⟩ := h
  exact ⟨by simp [dom0]; omega, by simp [dom0]; omega, by simp [dom0], by simp [dom0]⟩
def domsOf (m : Model) : List Dom := if (checkB m).2 = 0 then m.vars.map domOf else []

@[simp] theorem vVars_ids (l : List Var) : (vVars l).ids = [] := rfl
@[simp] theorem lim_vVars (n : Nat) (l : List Var) : lim n (vVars l) = vVars l := rfl

end Go.Abs.G


namespace Go.Abs.G
open Go.Proofs
set_option linter.unusedVariables false
set_option linter.unusedSimpArgs false
attribute [local simp] I.vc

end Go.Abs.G


namespace Go.Abs.G
open Go.Proofs
set_option linter.unusedVariables false
set_option linter.unusedSimpArgs false
attribute [local simp] I.vc

theorem mT_len (ms : List (List Dom)) : (mT ms).length = ms.length := by simp [mT]

end Go.Abs.G


namespace Go.Abs.G
open Go.Proofs
set_option linter.unusedVariables false
set_option linter.unusedSimpArgs false
attribute [local simp] I.vc

end Go.Abs.G


namespace Go.Abs.G
open Go.Proofs
set_option linter.unusedVariables false
set_option linter.unusedSimpArgs false
attribute [local simp] I.vc

end Go.Abs.G


namespace Go.Abs.G
open Go.Proofs
set_option linter.unusedVariables false
set_option linter.unusedSimpArgs false
attribute [local simp] I.vc

end Go.Abs.G


namespace Go.Abs.G
open Go.Proofs
set_option linter.unusedVariables false
set_option linter.unusedSimpArgs false
attribute [local simp] I.vc

theorem domCe_ren (f : Nat → Nat) (L : List Dom) : Ce.renR f (L.map domCe) = L.map domCe := by
  induction L with
  | nil => rfl
  | cons d L ih =>
    have : Ce.renL f (domCe d) = domCe d := rfl
    simp [Ce.renR, this, ih]
theorem mT_ren (f : Nat → Nat) (ms : List (List Dom)) : Ce.renR f (mT ms) = mT ms := by
  induction ms with
  | nil => rfl
  | cons L ms ih =>
    have h : Ce.renR f (ms.map fun L => [Ce.n 4 (L.map domCe)]) = ms.map fun L => [Ce.n 4 (L.map domCe)] := ih
    simp [mT, Ce.renR, Ce.renL, Ce.ren, domCe_ren, h]
structure SOk (s : List Dom) (ms : List (List Dom)) : Prop where
  n : s.length ≤ 64
  k : ms.length ≤ 1000000
  d : ∀ d ∈ s, d.ok
theorem SOk.st {s : List Dom} {ms : List (List Dom)} (h : SOk s ms) : StOk s (mT ms) := ⟨h.n, by rw [mT_len]; exact h.k, h.d, fun f => mT_ren f ms⟩

section
variable {s : List Dom} {ms : List (List Dom)} (h : SOk s ms)
include h
end
end Go.Abs.G


namespace Go.Abs.G
open Go.Proofs
set_option linter.unusedVariables false
set_option linter.unusedSimpArgs false
attribute [local simp] I.vc

end Go.Abs.G


namespace Go.Abs.G
open Go.Proofs
attribute [local simp] I.vc sub merge place
set_option linter.unusedVariables false
set_option linter.unusedSimpArgs false

def sumW (g : Int → Int) (l : List Term) : Int := l.foldl (fun n t => IntKind.i64.wrap (n + IntKind.i64.wrap (t.c * g t.x))) 0

theorem sumW_succ (g : Int → Int) (l : List Term) {i : Nat} (h : i < l.length) : sumW g (l.take (i + 1)) = IntKind.i64.wrap (sumW g (l.take i) + IntKind.i64.wrap (l[i].c * g l[i].x)) := by
  unfold sumW
  rw [List.take_succ_eq_append_getElem h, List.foldl_append]; rfl

theorem sum_spec0 {f : FuncId} {cap : List V} {g : Int → Int} {l : List Term} (hok : okFunc Tryz.prog f = true) (hids : V.idsL cap = []) (hg : ∀ t ∈ l, DP Tryz.prog f (V.i t.x :: cap) fun r => r = V.i (g t.x)) (hl : l.length ≤ maxLen) :
    Pf Tryz.prog model_sum.id [vTerms l, .fn (.func f) [] cap] (V.i (sumW g l)) := by
  have hm : (maxLen : Int) ≤ 9223372036854775807 := by decide
  refine DC.of model_sum.ok (by simp) ?_
  simp [model_sum.ir, model_sum.rs, vTerms]
  refine WI.loop 0 (by simp) (fun s => ∃ i, i ≤ l.length ∧ gt s.sl 1 = .fn (.func f) [] cap ∧ gt s.sl 5 = V.i (sumW g (l.take i)) ∧ gt s.sl 8 = vTerms l ∧ gt s.sl 9 = V.i l.length ∧ gt s.sl 10 = V.i i ∧ s.hp = []) (fun s => (l.length - (gt s.sl 10).num).toNat) ?_ ?_
  · exact ⟨0, by simp [vTerms, sumW]⟩
  · rintro ⟨sl, hp, bs⟩ ⟨i, hi, h1, h5, h8, h9, h10, rfl⟩
    by_cases hil : i < l.length
    · simp [model_sum.b0, h1, h5, h8, h9, h10, vTerms, Term.cells, hil, hok, hids]
      refine DP.mono (hg _ (List.getElem_mem hil)) fun r hr => ?_
      subst hr
      have hw : IntKind.i64.wrap ((i : Int) + 1) = ((i + 1 : Nat) : Int) := by rw [wrap64] <;> omega
      simp [hids, hw]
      exact ⟨⟨i + 1, hil, (sumW_succ g l hil).symm, rfl⟩, by omega⟩
    · obtain rfl : i = l.length := by omega
      simp [model_sum.b0, h1, h5, h8, h9, h10, vTerms, model_sum.rs]

theorem sumW_eq {g : Int → Int} : ∀ (l : List Term) (a : Int), (∀ t ∈ l, -1000000000000000 ≤ t.c * g t.x ∧ t.c * g t.x ≤ 1000000000000000) → -4000000000000000000 + 1000000000000000 * l.length ≤ a → a ≤ 4000000000000000000 - 1000000000000000 * l.length →
    l.foldl (fun n t => IntKind.i64.wrap (n + IntKind.i64.wrap (t.c * g t.x))) a = a + sumI g l := by
  intro l
  induction l with
  | nil => intro a _ _ _; simp [sumI]
  | cons t l ih =>
    intro a h h1 h2
    have h0 := h t (by simp)
    rw [List.length_cons] at h1 h2
    rw [List.foldl_cons, wrap64 (n := t.c * g t.x) (by omega) (by omega), wrap64 (n := a + t.c * g t.x) (by omega) (by omega), ih _ (fun t ht => h t (by simp [ht])) (by omega) (by omega)]
    simp [sumI]; omega

/-- A sum of few terms whose parts aren't great. -/
theorem sum_spec {f : FuncId} {cap : List V} {g : Int → Int} {l : List Term} (hok : okFunc Tryz.prog f = true) (hids : V.idsL cap = []) (hg : ∀ t ∈ l, DP Tryz.prog f (V.i t.x :: cap) fun r => r = V.i (g t.x)) (hl : l.length ≤ 64)
    (hb : ∀ t ∈ l, (-1000000 ≤ t.c ∧ t.c ≤ 1000000) ∧ (-1000000000 ≤ g t.x ∧ g t.x ≤ 1000000000)) :
    Pf Tryz.prog model_sum.id [vTerms l, .fn (.func f) [] cap] (V.i (sumI g l)) := by
  have hm : (64 : Nat) ≤ maxLen := by decide
  have e := sumW_eq (g := g) l 0 (fun t ht => mul_bound (hb t ht).1 (hb t ht).2) (by omega) (by omega)
  rw [Int.zero_add] at e
  have := sum_spec0 hok hids hg (by omega : l.length ≤ maxLen)
  unfold sumW at this
  rw [e] at this
  exact this

theorem great_at {l : List Int} (h : greatB l = false) {x : Int} (h0 : 0 ≤ x) (h1 : x < l.length) : -1000000000 ≤ atI l x ∧ atI l x ≤ 1000000000 := by
  unfold greatB at h
  rw [List.any_eq_false] at h
  have hi : x.toNat < l.length := by omega
  have hx := h l[x.toNat] (List.getElem_mem hi)
  have e : atI l x = l[x.toNat] := by simp [atI, List.getD, List.getElem?_eq_getElem hi]
  rw [e]
  simp [withinB] at hx
  omega

end Go.Abs.G


namespace Go.Abs.G
open Go.Proofs
attribute [local simp] I.vc sub merge place
set_option linter.unusedVariables false
set_option linter.unusedSimpArgs false

end Go.Abs.G


/- Holds, Solution: what they tell. -/
namespace Go.Abs

def opB (op n k : Int) : Bool := if op = 1 then decide (n ≤ k) else if op = 3 then decide (k ≤ n) else decide (n = k)
def maxI : List Int → Int
  | [] => 0
  | [x] => x
  | x :: l => max x (maxI l)
def minI : List Int → Int
  | [] => 0
  | [x] => x
  | x :: l => min x (minI l)
def holdsK (c : Con) (g : Int → Int) : Bool :=
  if c.kind = 1 then opB c.op (sumI g c.terms) c.k
  else if c.kind = 2 then decide (g c.x ≠ g c.y + c.k)
  else if c.kind = 3 then decide ((c.xs.map g).Nodup)
  else if c.kind = 4 then decide (0 ≤ g c.x) && decide (g c.x < c.table.length) && decide (g c.y = atI c.table (g c.x))
  else if c.kind = 5 then decide (g c.y = maxI (c.xs.map g))
  else if c.kind = 6 then decide (g c.y = minI (c.xs.map g))
  else if c.kind = 7 then (if sumI g c.terms ≤ c.k then decide (g c.x = 1) else decide (g c.x = 0))
  else if c.kind = 8 then c.rows.any fun r => decide (r = c.xs.map g)
  else opB c.op ((c.xs.filter fun x => decide (g x = c.v)).length) c.k
def holdsB (c : Con) (values : List Int) : Bool :=
  if decide (conB c values.length ≠ 0) || greatB values then false else holdsK c (atI values)
structure ConOk (c : Con) (vars : Nat) (n : Needs) : Prop where
  terms : ∀ t ∈ c.terms, TermOk vars t
  termsN : c.terms.length ≤ 64
  xs : ∀ x ∈ c.xs, 0 ≤ x ∧ x < vars
  xsN : c.xs.length ≤ 64
  xs1 : n.xs = true → 1 ≤ c.xs.length
  x : n.x = true → 0 ≤ c.x ∧ c.x < vars
  y : n.y = true → 0 ≤ c.y ∧ c.y < vars
  k : -1000000000 ≤ c.k ∧ c.k ≤ 1000000000
  rowsN : c.rows.length ≤ 64
  tableN : c.table.length ≤ 64

theorem ConOk.of {c : Con} {vars : Nat} {n : Needs} (h : conN c vars n = 0) : ConOk c vars n := by
  unfold conN at h
  split at h
  · cases h
  · split at h
    · cases h
    · next h1 =>
      split at h
      · cases h
      · next h2 =>
        split at h
        · cases h
        · next h3 =>
          split at h
          · cases h
          · next h4 =>
            split at h
            · cases h
            · next h5 =>
              simp only [Bool.or_eq_true, not_or, Bool.not_eq_true', Bool.and_eq_true, not_and, decide_eq_true_eq, Bool.not_eq_false] at h2 h3 h5
              obtain ⟨⟨⟨t1, t2⟩, t3⟩, t4⟩ := h2
              obtain ⟨⟨⟨v1, v2⟩, v3⟩, v4⟩ := h3
              obtain ⟨⟨⟨k1, k2⟩, k3⟩, k4⟩ := h5
              have hf : ∀ {a : Bool} {k : Nat}, fieldB c n = false → (!a && decide (0 < k)) = false → countsB a k = true → k ≤ 64 := by
                intro a k _ h h'
                unfold countsB at h'
                cases a <;> simp at h h' <;> omega
              have hfield : fieldB c n = false := by simpa using h1
              have hfl := hfield
              unfold fieldB at hfl
              simp only [Bool.or_eq_false_iff] at hfl
              obtain ⟨⟨⟨⟨_, f1⟩, f2⟩, f3⟩, f4⟩ := hfl
              refine ⟨TermOk.of (by simpa using v1) (by simpa using h4), hf hfield f1 t1, fun x hx => ?_, hf hfield f2 t2, fun hn => ?_, fun hn => ?_, fun hn => ?_, ?_, ?_, hf hfield f3 t3⟩
              · have := (List.any_eq_false.1 (by simpa using v4 : c.xs.any (noB vars) = false)) x hx
                simp [noB] at this
                omega
              · unfold countsB at t2
                rw [hn] at t2
                simp at t2
                omega
              · have := v2 hn
                simp [noB] at this
                omega
              · have := v3 hn
                simp [noB] at this
                omega
              · simp [withinB] at k1
                omega
              · cases hn : n.rows
                · rw [hn] at f4
                  simp at f4
                  simp [f4]
                · have h5' := t4
                  simp [wideB, hn, countsB] at h5'
                  omega
end Go.Abs

namespace Go.Abs.G
open Go.Proofs
attribute [local simp] I.vc sub merge place
set_option linter.unusedVariables false
set_option linter.unusedSimpArgs false

structure AtOk (f : FuncId) (cap : List V) (g : Int → Int) (vars : Nat) : Prop where
  ok : okFunc Tryz.prog f = true
  ids : V.idsL cap = []
  run : ∀ x : Int, 0 ≤ x → x < vars → DP Tryz.prog f (V.i x :: cap) fun r => r = V.i (g x)
  bound : ∀ x : Int, 0 ≤ x → x < vars → -1000000000 ≤ g x ∧ g x ≤ 1000000000

theorem is_spec (op n k : Int) : Pf Tryz.prog model_is.id [V.i op, V.i n, V.i k] (.bool (opB op n k)) := by
  refine DC.of model_is.ok (by simp) ?_
  by_cases h1 : op = 1
  · subst h1; simp [model_is.ir, model_is.rs, opB]
  · by_cases h3 : op = 3
    · subst h3; simp [model_is.ir, model_is.rs, opB]
    · simp [model_is.ir, model_is.rs, opB, h1, h3]
      rfl

theorem holds1_spec (values : List Int) (x : Int) (h0 : 0 ≤ x) (h1 : x < values.length) : Pf Tryz.prog model_Holds_1.id [V.i x, .ref [vInts values] 0] (V.i (atI values x)) := by
  refine DC.of model_Holds_1.ok (by simp) ?_
  obtain ⟨n, rfl⟩ := Int.eq_ofNat_of_zero_le h0
  have h1' : n < values.length := by omega
  simp [model_Holds_1.ir, model_Holds_1.rs, vInts, h1', atI]

section
variable {f : FuncId} {cap : List V} {g : Int → Int} {vars : Nat} (A : AtOk f cap g vars)
include A

theorem sumAt_spec {l : List Term} (hl : l.length ≤ 64) (ht : ∀ t ∈ l, TermOk vars t) : Pf Tryz.prog model_sum.id [vTerms l, .fn (.func f) [] cap] (V.i (sumI g l)) :=
  sum_spec A.ok A.ids (fun t h => A.run _ (ht t h).x.1 (ht t h).x.2) hl fun t h => ⟨⟨(ht t h).c.1, (ht t h).c.2.1⟩, A.bound _ (ht t h).x.1 (ht t h).x.2⟩

theorem lin_spec {c : Con} {n : Needs} (hk : c.kind = 1) (hc : ConOk c vars n) : Pf Tryz.prog model_lin.id [.agg c.cells, .fn (.func f) [] cap] (.bool (holdsK c g)) := by
  have hid := A.ids
  refine DC.of model_lin.ok (by simp) ?_
  simp [model_lin.ir, model_lin.rs, Con.cells, vTerms, vInts, vIntss, hid]
  refine (sumAt_spec A hc.termsN hc.terms).use ?_
  simp [hid]
  refine (is_spec c.op (sumI g c.terms) c.k).use ?_
  simp [holdsK, hk]

theorem ne_spec {c : Con} {n : Needs} (hk : c.kind = 2) (hx : n.x = true) (hy : n.y = true) (hc : ConOk c vars n) : Pf Tryz.prog model_kinds_1.id [.agg c.cells, .fn (.func f) [] cap] (.bool (holdsK c g)) := by
  have hid := A.ids
  have hok := A.ok
  refine DC.of model_kinds_1.ok (by simp) ?_
  simp [model_kinds_1.ir, model_kinds_1.rs, Con.cells, vTerms, vInts, vIntss, hid, hok]
  refine DP.mono (A.run _ (hc.x hx).1 (hc.x hx).2) fun r hr => ?_
  subst hr
  refine DP.mono (A.run _ (hc.y hy).1 (hc.y hy).2) fun r hr => ?_
  subst hr
  have hb := A.bound _ (hc.y hy).1 (hc.y hy).2
  have hk' := hc.k
  have hw : IntKind.i64.wrap (g c.y + c.k) = g c.y + c.k := by rw [wrap64] <;> omega
  simp [hw, holdsK, hk]
  by_cases h : g c.x = g c.y + c.k <;> simp [h]

theorem element_spec {c : Con} {n : Needs} (hk : c.kind = 4) (hx : n.x = true) (hy : n.y = true) (hc : ConOk c vars n) : Pf Tryz.prog model_element.id [.agg c.cells, .fn (.func f) [] cap] (.bool (holdsK c g)) := by
  have hid := A.ids
  have hok := A.ok
  refine DC.of model_element.ok (by simp) ?_
  simp [model_element.ir, model_element.rs, Con.cells, vTerms, vInts, vIntss, hid, hok]
  refine DP.mono (A.run _ (hc.x hx).1 (hc.x hx).2) fun r hr => ?_
  subst hr
  generalize hi : g c.x = i
  by_cases h0 : 0 ≤ i
  · by_cases h1 : i < c.table.length
    · obtain ⟨k, rfl⟩ := Int.eq_ofNat_of_zero_le h0
      have h1' : k < c.table.length := by omega
      simp [hid, hok, h1', hi]
      refine DP.mono (A.run _ (hc.y hy).1 (hc.y hy).2) fun r hr => ?_
      subst hr
      simp [hid, hok, h1', holdsK, hk, hi, atI]
      rfl
    · simp [hid, hok, h0, h1, holdsK, hk, hi]
  · simp [hid, hok, h0, holdsK, hk, hi]

theorem reif_spec {c : Con} {n : Needs} (hk : c.kind = 7) (hx : n.x = true) (hc : ConOk c vars n) : Pf Tryz.prog model_reif.id [.agg c.cells, .fn (.func f) [] cap] (.bool (holdsK c g)) := by
  have hid := A.ids
  have hok := A.ok
  refine DC.of model_reif.ok (by simp) ?_
  simp [model_reif.ir, model_reif.rs, Con.cells, vTerms, vInts, vIntss, hid, hok]
  refine DP.mono (A.run _ (hc.x hx).1 (hc.x hx).2) fun r hr => ?_
  subst hr
  simp [hid, hok]
  refine (sumAt_spec A hc.termsN hc.terms).use ?_
  by_cases h : sumI g c.terms ≤ c.k
  · simp [hid, hok, h, holdsK, hk]
    rfl
  · simp [hid, hok, h, holdsK, hk]
    rfl

theorem each_spec {xs : List Int} (hl : xs.length ≤ 64) (hx : ∀ x ∈ xs, 0 ≤ x ∧ x < vars) : Pf Tryz.prog model_each.id [vInts xs, .fn (.func f) [] cap] (vInts (xs.map g)) := by
  have hid := A.ids
  have hok := A.ok
  refine DC.of model_each.ok (by simp) ?_
  simp [model_each.ir, model_each.rs, vInts, hid, hok]
  refine WI.mono (Q := fun e s => e = .exit 0 ∧ ((xs = [] ∧ gt s.sl 5 = .a (.slice none 0 0) ∧ s.hp = []) ∨ ∃ o, gt s.sl 5 = .own 1 1 0 xs.length xs.length ∧ s.hp = [o, .mem false [] ((xs.map g).map fun x => [V.i x])])) (WI.loop 2 (by simp) (fun s => ∃ i, i ≤ xs.length ∧ gt s.sl 1 = .fn (.func f) [] cap ∧ gt s.sl 8 = vInts xs ∧ gt s.sl 9 = V.i xs.length ∧ gt s.sl 10 = V.i i ∧
      ((i = 0 ∧ gt s.sl 5 = .a (.slice none 0 0) ∧ s.hp = []) ∨ ∃ o, 0 < i ∧ gt s.sl 5 = .own 1 1 0 i i ∧ s.hp = [o, .mem false [] (((xs.take i).map g).map fun x => [V.i x])])) (fun s => (xs.length - (gt s.sl 10).num).toNat) ?_ ?_) ?_
  · exact ⟨0, by simp [vInts]⟩
  · rintro ⟨sl, hp, bs⟩ ⟨i, hi, h1, h8, h9, h10, hcase⟩
    by_cases hil : i < xs.length
    · have hxi := hx _ (List.getElem_mem hil)
      have hw : IntKind.i64.wrap ((i : Int) + 1) = ((i + 1 : Nat) : Int) := by rw [wrap64] <;> omega
      have htk : List.take (i + 1) (List.map ((fun n => [V.i n]) ∘ g) xs) = List.take i (List.map ((fun n => [V.i n]) ∘ g) xs) ++ [[V.i (g xs[i])]] := by
        rw [List.take_succ_eq_append_getElem (by simpa using hil)]; simp
      have h1w : IntKind.i64.wrap 1 = 1 := by decide
      rcases hcase with ⟨rfl, h5, rfl⟩ | ⟨o, h0, h5, rfl⟩
      · simp [model_each.b0, h1, h5, h8, h9, h10, vInts, hil, hid, hok]
        refine DP.mono (A.run _ hxi.1 hxi.2) fun r hr => ?_
        subst hr
        simp [hid, hok]
        exact ⟨⟨1, by omega, h1w, by omega, rfl, by simpa using htk.symm⟩, by omega⟩
      · simp [model_each.b0, h1, h5, h8, h9, h10, vInts, hil, hid, hok]
        refine DP.mono (A.run _ hxi.1 hxi.2) fun r hr => ?_
        subst hr
        simp [hid, hok]
        exact ⟨by omega, by omega, ⟨i + 1, by omega, hw, by omega, rfl, htk.symm⟩, by omega⟩
    · obtain rfl : i = xs.length := by omega
      simp [model_each.b0, h1, h8, h9, h10]
      rcases hcase with ⟨h0, h5, rfl⟩ | ⟨o, h0, h5, rfl⟩
      · exact .inl ⟨by simpa using h0, h5, rfl⟩
      · refine .inr ⟨h5, ?_⟩
        simp
  · rintro e ⟨sl, hp, bs⟩ ⟨rfl, ⟨h0, h5, rfl⟩ | ⟨o, h5, rfl⟩⟩
    · simp [h0, h5]
    · simp [h5]
      exact List.take_of_length_le (by simp)
end
end Go.Abs.G


namespace Go.Abs.G
open Go.Proofs
attribute [local simp] I.vc sub merge place
set_option linter.unusedVariables false
set_option linter.unusedSimpArgs false

theorem equal_spec (a b : List Int) (ha : a.length ≤ maxLen) : Pf Tryz.prog slices_Equal_Lint_int.id [vInts a, vInts b] (.bool (decide (a = b))) := by
  have hm : (maxLen : Int) ≤ 9223372036854775807 := by decide
  refine DC.of slices_Equal_Lint_int.ok (by simp) ?_
  by_cases hl : a.length = b.length
  · have hl' : (a.length : Int) = b.length := by omega
    simp [slices_Equal_Lint_int.ir, slices_Equal_Lint_int.rs, vInts, hl]
    refine WI.mono (Q := fun e s => (e = .exit 0 ∧ a = b) ∨ (e = .ret ∧ a ≠ b ∧ gt s.sl 4 = .bool false)) (WI.loop 0 (by simp) (fun s => ∃ i, i ≤ a.length ∧ gt s.sl 0 = vInts a ∧ gt s.sl 1 = vInts b ∧ gt s.sl 12 = V.i a.length ∧ gt s.sl 13 = V.i i ∧ s.hp = [] ∧ a.take i = b.take i) (fun s => (a.length - (gt s.sl 13).num).toNat) ?_ ?_) ?_
    · exact ⟨0, by simp [vInts, hl]⟩
    · rintro ⟨sl, hp, bs⟩ ⟨i, hi, h0, h1, h12, h13, rfl, he⟩
      by_cases hil : i < a.length
      · have hil2 : i < b.length := by omega
        have hw : IntKind.i64.wrap ((i : Int) + 1) = ((i + 1 : Nat) : Int) := by rw [wrap64] <;> omega
        by_cases hx : a[i] = b[i]
        · have he' : a.take (i + 1) = b.take (i + 1) := by
            rw [List.take_succ_eq_append_getElem hil, List.take_succ_eq_append_getElem hil2, he, hx]
          simp [slices_Equal_Lint_int.b0, h0, h1, h12, h13, vInts, hil, hil2, hx, hw]
          exact ⟨⟨i + 1, by omega, by omega, he'⟩, by omega⟩
        · simp [slices_Equal_Lint_int.b0, h0, h1, h12, h13, vInts, hil, hil2, hx]
          exact fun h => hx (by simp [h])
      · obtain rfl : i = a.length := by omega
        rw [List.take_length, hl, List.take_length] at he
        simp [slices_Equal_Lint_int.b0, h0, h1, h12, h13, he]
    · rintro e ⟨sl, hp, bs⟩ (⟨rfl, he⟩ | ⟨rfl, he, h4⟩)
      · simp [he]
      · simp [he, h4]
  · have hl' : ¬ (a.length : Int) = b.length := by omega
    have hne : a ≠ b := fun h => hl (by rw [h])
    simp [slices_Equal_Lint_int.ir, slices_Equal_Lint_int.rs, vInts, hl, hl', hne]

theorem table1_spec (r l : List Int) (hr : r.length ≤ maxLen) : Pf Tryz.prog model_table_1.id [vInts r, .ref [vInts l] 0] (.bool (decide (r = l))) := by
  refine DC.of model_table_1.ok (by simp) ?_
  simp [model_table_1.ir, model_table_1.rs, vInts]
  exact (equal_spec r l hr).use (by simp)

section
variable {f : FuncId} {cap : List V} {g : Int → Int} {vars : Nat} (A : AtOk f cap g vars)
include A

theorem table_spec {c : Con} {n : Needs} (hk : c.kind = 8) (hc : ConOk c vars n) (hr : ∀ r ∈ c.rows, r.length ≤ maxLen) : Pf Tryz.prog model_table.id [.agg c.cells, .fn (.func f) [] cap] (.bool (holdsK c g)) := by
  have hm : (64 : Nat) ≤ maxLen := by decide
  have hid := A.ids
  have hok := A.ok
  refine DC.of model_table.ok (by simp) ?_
  simp [model_table.ir, model_table.rs, Con.cells, vTerms, vInts, vIntss, hid, hok]
  refine (each_spec A hc.xsN hc.xs).use ?_
  have hH : holdsK c g = c.rows.any fun r => decide (r = c.xs.map g) := by simp [holdsK, hk]
  rw [hH]
  generalize c.xs.map g = L
  simp [vInts]
  refine DP.mono (contains_ints_spec (p := fun r => decide (r = L)) (cap := [.ref [vInts L] 0]) (l := c.rows) (by simp) (by simp) (fun t ht => table1_spec t _ (hr t ht)) (by have := hc.rowsN; omega)) fun r hr' => ?_
  subst hr'
  simp

theorem filter_take_succ (p : Int → Bool) {l : List Int} {i : Nat} (h : i < l.length) : ((l.take (i + 1)).filter p).length = ((l.take i).filter p).length + if p l[i] then 1 else 0 := by
  rw [List.take_succ_eq_append_getElem h, List.filter_append, List.length_append]
  by_cases hp : p l[i] = true <;> simp [hp]

theorem count_spec {c : Con} {n : Needs} (hk : c.kind = 9) (hc : ConOk c vars n) : Pf Tryz.prog model_count.id [.agg c.cells, .fn (.func f) [] cap] (.bool (holdsK c g)) := by
  have hid := A.ids
  have hok := A.ok
  have hn := hc.xsN
  refine DC.of model_count.ok (by simp) ?_
  simp [model_count.ir, model_count.rs, Con.cells, vTerms, vInts, vIntss, hid, hok]
  refine (each_spec A hc.xsN hc.xs).use ?_
  simp [vInts, hid]
  refine WI.mono (Q := fun e s => e = .exit 0 ∧ gt s.sl 2 = .ptr 0 1 0 0 ∧ gt s.sl 5 = V.i ((c.xs.filter fun x => decide (g x = c.v)).length) ∧ s.hp = [.mem false [] [c.cells]]) (WI.loop 1 (by simp) (fun s => ∃ i, i ≤ c.xs.length ∧ gt s.sl 2 = .ptr 0 1 0 0 ∧ gt s.sl 5 = V.i (((c.xs.take i).filter fun x => decide (g x = c.v)).length) ∧ gt s.sl 11 = vInts (c.xs.map g) ∧ gt s.sl 12 = V.i c.xs.length ∧ gt s.sl 13 = V.i i ∧ s.hp = [.mem false [] [c.cells]]) (fun s => (c.xs.length - (gt s.sl 13).num).toNat) ?_ ?_) ?_
  · exact ⟨0, by simp [vInts, Con.cells, vTerms, vIntss]⟩
  · rintro ⟨sl, hp, bs⟩ ⟨i, hi, h2, h5, h11, h12, h13, rfl⟩
    by_cases hil : i < c.xs.length
    · have hw : IntKind.i64.wrap ((i : Int) + 1) = ((i + 1 : Nat) : Int) := by rw [wrap64] <;> omega
      have hs := filter_take_succ A (fun x => decide (g x = c.v)) hil
      have hle : ((c.xs.take i).filter fun x => decide (g x = c.v)).length ≤ 64 := by
        have := List.length_filter_le (fun x => decide (g x = c.v)) (c.xs.take i)
        simp at this; omega
      generalize hN : ((c.xs.take i).filter fun x => decide (g x = c.v)).length = N at *
      have hw2 : IntKind.i64.wrap ((N : Int) + 1) = ((N + 1 : Nat) : Int) := by rw [wrap64] <;> omega
      by_cases hx : g c.xs[i] = c.v
      · simp [model_count.b0, h2, h5, h11, h12, h13, vInts, Con.cells, vTerms, vIntss, hil, hx, hw, hw2]
        simp [hx] at hs
        exact ⟨⟨i + 1, by omega, by omega, by omega⟩, by omega⟩
      · simp [model_count.b0, h2, h5, h11, h12, h13, vInts, Con.cells, vTerms, vIntss, hil, hx, hw, hw2]
        simp [hx] at hs
        exact ⟨⟨i + 1, by omega, by omega, by omega⟩, by omega⟩
    · obtain rfl : i = c.xs.length := by omega
      rw [List.take_length] at h5
      simp [model_count.b0, h2, h5, h11, h12, h13]
  · rintro e ⟨sl, hp, bs⟩ ⟨rfl, h2, h5, rfl⟩
    simp [h2, h5, Con.cells, vTerms, vInts, vIntss]
    refine (is_spec c.op _ c.k).use ?_
    simp [holdsK, hk]
end
end Go.Abs.G



namespace Go.Abs.G
open Go.Proofs
attribute [local simp] I.vc sub merge place
set_option linter.unusedVariables false
set_option linter.unusedSimpArgs false

abbrev rowsO (d : Array Int) : O := .mem false [] (d.toList.map fun n => [V.a (.int .i64 n)])
abbrev dataV (n : Nat) : V := .own 0 1 0 n n
abbrev vi (n : Int) : V := .a (.int .i64 n)

theorem isNaN_spec (x : Int) : Pf Tryz.prog cmp_isNaN_int.id [vi x] (.bool false) := by
  refine DC.of cmp_isNaN_int.ok (by simp) ?_
  simp [cmp_isNaN_int.ir, cmp_isNaN_int.rs]

theorem less_spec (x y : Int) : Pf Tryz.prog cmp_Less_int.id [vi x, vi y] (.bool (Go.Sort.ltInt x y)) := by
  refine DC.of cmp_Less_int.ok (by simp) ?_
  simp -dsimp [↓call_f, cmp_Less_int.ir, cmp_Less_int.rs]
  refine (isNaN_spec x).use ?_
  simp -dsimp [↓call_f, cmp_Less_int.ir, cmp_Less_int.rs, Go.Sort.ltInt]

theorem get_bang (d : Array Int) {i : Nat} (h : i < d.size) : d[i]! = d[i] := getElem!_pos d i h
theorem swp_size (d : Array Int) (i j : Nat) : (Go.Sort.swp d i j).size = d.size := by simp [Go.Sort.swp]
theorem swp_rows (d : Array Int) {i j : Nat} (hi : i < d.size) (hj : j < d.size) : ((d.toList.map fun n => [V.a (.int .i64 n)]).set i [V.a (.int .i64 d[j])]).set j [V.a (.int .i64 d[i])] = (Go.Sort.swp d i j).toList.map fun n => [V.a (.int .i64 n)] := by
  simp only [Go.Sort.swp, Array.toList_setIfInBounds, List.map_set, get_bang d hi, get_bang d hj]

theorem insInner_size (a : Nat) : ∀ (j : Nat) (d : Array Int), (Go.Sort.insInner Go.Sort.ltInt a j d).size = d.size := by
  intro j
  induction j with
  | zero => intro d; rfl
  | succ j ih =>
    intro d
    simp only [Go.Sort.insInner]
    split
    · rw [ih, swp_size]
    · rfl

theorem insInner_loop {n a b i : Nat} (hs : n ≤ 4611686018427387904) (hi : i < n) (d : Array Int) (hd : d.size = n) (Q : Ex → St → Prop) (sl : Sl) (bs : Nat)
    (h0 : gt sl 0 = dataV n) (h1 : gt sl 1 = vi a) (h2 : gt sl 2 = vi b) (h6 : gt sl 6 = vi i) (h7 : gt sl 7 = vi i)
    (hq : ∀ s, gt s.sl 0 = dataV n → gt s.sl 1 = vi a → gt s.sl 2 = vi b → gt s.sl 6 = vi i → s.hp = [rowsO (Go.Sort.insInner Go.Sort.ltInt a i d)] → Q (.exit 2) s) :
    WI Tryz.prog (.loop slices_insertionSortOrdered_int.b1) Q ⟨sl, [rowsO d], bs⟩ := by
  refine WI.loop 1 (by simp) (fun s => ∃ (j : Nat) (d' : Array Int), j ≤ i ∧ d'.size = n ∧ gt s.sl 0 = dataV n ∧ gt s.sl 1 = vi a ∧ gt s.sl 2 = vi b ∧ gt s.sl 6 = vi i ∧ gt s.sl 7 = vi j ∧ s.hp = [rowsO d'] ∧ Go.Sort.insInner Go.Sort.ltInt a i d = Go.Sort.insInner Go.Sort.ltInt a j d') (fun s => (gt s.sl 7).num.toNat) ?_ ?_
  · exact ⟨i, d, Nat.le_refl _, hd, h0, h1, h2, h6, h7, rfl, rfl⟩
  · clear h0 h1 h2 h6 h7 hd
    rintro ⟨sl, hp, bs⟩ ⟨j, d', hj, hd, h0, h1, h2, h6, h7, rfl, he⟩
    cases j with
    | zero =>
      have g0 : Go.Sort.insInner Go.Sort.ltInt a 0 d' = d' := rfl
      rw [g0] at he
      have hna : ¬ (a : Int) < 0 := by omega
      simp -dsimp [↓call_f, slices_insertionSortOrdered_int.b1, h0, h1, h2, h6, h7, hna]
      exact hq _ (by simp) (by simp) (by simp) (by simp) (by simp [he])
    | succ j =>
      have hj1 : j + 1 < d'.size := by omega
      have hj0 : j < d'.size := by omega
      have hw : IntKind.i64.wrap (((j + 1 : Nat) : Int) - 1) = (j : Int) := by rw [wrap64] <;> omega
      by_cases hja : a < j + 1
      · have hja' : (a : Int) < (j : Int) + 1 := by omega
        have hle1 : j + 1 < n := by omega
        have hle0 : j < n := by omega
        simp only [Go.Sort.insInner] at he
        rw [get_bang d' hj1, get_bang d' hj0] at he
        have hws : IntKind.i64.wrap (j : Int) = (j : Int) := by rw [wrap64] <;> omega
        simp -dsimp [↓call_f, slices_insertionSortOrdered_int.b1, h0, h1, h2, h6, h7, hja', hws, hd, hle1, hle0]
        refine ⟨by omega, ?_⟩
        refine (less_spec d'[j + 1] d'[j]).use ?_
        have hsw := swp_rows d' hj1 hj0
        by_cases hlt : Go.Sort.ltInt d'[j + 1] d'[j] = true
        · rw [hlt, if_pos (by simp; omega)] at he
          simp -dsimp [hlt, h0, h1, h2, h6, h7, hws, hd, hle1, hle0]
          exact ⟨by omega, ⟨j, by omega, Go.Sort.swp d' (j + 1) j, by rw [swp_size]; exact hd, rfl, hsw, he⟩, by omega⟩
        · have hlt : Go.Sort.ltInt d'[j + 1] d'[j] = false := by simpa using hlt
          rw [hlt] at he
          simp -dsimp [hlt, h0, h1, h2, h6, h7]
          exact hq _ (by simp) (by simp) (by simp) (by simp) (by simp [he])
      · have hja' : ¬ (a : Int) < (j : Int) + 1 := by omega
        simp only [Go.Sort.insInner] at he
        rw [if_neg (by simp; omega)] at he
        simp -dsimp [↓call_f, slices_insertionSortOrdered_int.b1, h0, h1, h2, h6, h7, hja']
        exact hq _ (by simp) (by simp) (by simp) (by simp) (by simp [he])


theorem insertion_spec (d : Array Int) (a b : Nat) (ha : a ≤ d.size) (hb : b ≤ d.size) (hs : d.size ≤ 4611686018427387904) :
    DC Tryz.prog slices_insertionSortOrdered_int.id [dataV d.size, vi a, vi b] [rowsO d] (fun r H => H = [rowsO (Go.Sort.insertionSort Go.Sort.ltInt d a b)]) := by
  refine DC.of slices_insertionSortOrdered_int.ok (by simp) ?_
  have hw : IntKind.i64.wrap ((a : Int) + 1) = ((a + 1 : Nat) : Int) := by rw [wrap64] <;> omega
  simp -dsimp [↓loop_f, slices_insertionSortOrdered_int.ir, slices_insertionSortOrdered_int.rs, hw]
  refine WI.loop 1 (by simp) (fun s => ∃ (i : Nat) (d' : Array Int), d'.size = d.size ∧ gt s.sl 0 = dataV d.size ∧ gt s.sl 1 = vi a ∧ gt s.sl 2 = vi b ∧ gt s.sl 6 = vi i ∧ s.hp = [rowsO d'] ∧ Go.Sort.insertionSort Go.Sort.ltInt d a b = Go.Sort.insOuter Go.Sort.ltInt a b i d') (fun s => (b - (gt s.sl 6).num).toNat) ?_ ?_
  · exact ⟨a + 1, d, rfl, by simp, by simp, by simp, by simp, rfl, rfl⟩
  · rintro ⟨sl, hp, bs⟩ ⟨i, d', hd, h0, h1, h2, h6, rfl, he⟩
    rw [Go.Sort.insOuter] at he
    by_cases hib : i < b
    · rw [if_pos hib] at he
      have hwi : IntKind.i64.wrap ((i : Int) + 1) = ((i + 1 : Nat) : Int) := by rw [wrap64] <;> omega
      simp -dsimp [↓loop_f, slices_insertionSortOrdered_int.b0, h0, h1, h2, h6, hib]
      refine insInner_loop (n := d.size) (a := a) (b := b) (i := i) hs (by omega) d' hd _ _ _ (by simp) (by simp) (by simp) (by simp) (by simp) ?_
      rintro ⟨sl, hp, bs⟩ h0 h1 h2 h6 rfl
      simp -dsimp [h0, h1, h2, h6, hwi]
      exact ⟨⟨i + 1, Go.Sort.insInner Go.Sort.ltInt a i d', by rw [insInner_size]; exact hd, by omega, rfl, he⟩, by omega⟩
    · rw [if_neg hib] at he
      simp -dsimp [slices_insertionSortOrdered_int.b0, h0, h1, h2, h6, hib, he]
end Go.Abs.G


namespace Go.Abs.G
open Go.Proofs
attribute [local simp] I.vc sub merge place
set_option linter.unusedVariables false
set_option linter.unusedSimpArgs false

theorem reverse_spec (d : Array Int) (a b : Nat) (hb1 : 1 ≤ b) (hb : b ≤ d.size) (hs : d.size ≤ 4611686018427387904) :
    DC Tryz.prog slices_reverseRangeOrdered_int.id [dataV d.size, vi a, vi b] [rowsO d] (fun r H => H = [rowsO (Go.Sort.reverseRange d a b)]) := by
  refine DC.of slices_reverseRangeOrdered_int.ok (by simp) ?_
  have hw : IntKind.i64.wrap ((b : Int) - 1) = ((b - 1 : Nat) : Int) := by rw [wrap64] <;> omega
  simp -dsimp [↓loop_f, slices_reverseRangeOrdered_int.ir, slices_reverseRangeOrdered_int.rs, hw]
  refine WI.loop 1 (by simp) (fun s => ∃ (i j : Nat) (d' : Array Int), j < d.size ∧ d'.size = d.size ∧ gt s.sl 0 = dataV d.size ∧ gt s.sl 6 = vi i ∧ gt s.sl 7 = vi j ∧ s.hp = [rowsO d'] ∧ Go.Sort.reverseRange d a b = Go.Sort.reverseLoop i j d') (fun s => ((gt s.sl 7).num - (gt s.sl 6).num).toNat) ?_ ?_
  · exact ⟨a, b - 1, d, by omega, rfl, by simp, by simp, by simp, rfl, rfl⟩
  · rintro ⟨sl, hp, bs⟩ ⟨i, j, d', hj, hd, h0, h6, h7, rfl, he⟩
    rw [Go.Sort.reverseLoop] at he
    by_cases hij : i < j
    · rw [if_pos hij] at he
      have hi1 : i < d'.size := by omega
      have hj1 : j < d'.size := by omega
      have hin : i < d.size := by omega
      have hsw := swp_rows d' hi1 hj1
      have hwi : IntKind.i64.wrap ((i : Int) + 1) = ((i + 1 : Nat) : Int) := by rw [wrap64] <;> omega
      have hwj : IntKind.i64.wrap ((j : Int) - 1) = ((j - 1 : Nat) : Int) := by rw [wrap64] <;> omega
      have hne : ¬ i = j := by omega
      simp -dsimp [slices_reverseRangeOrdered_int.b0, h0, h6, h7, hij, hd, hin, hj, hwi, hwj, hne, List.getElem_set]
      exact ⟨⟨i + 1, j - 1, by omega, Go.Sort.swp d' i j, by rw [swp_size]; exact hd, by omega, rfl, hsw, he⟩, by omega⟩
    · rw [if_neg hij] at he
      simp -dsimp [slices_reverseRangeOrdered_int.b0, h0, h6, h7, hij, he]

abbrev swO (s : Nat) : O := .mem false [] [[vi s]]

theorem order2_spec (d : Array Int) (a b s : Nat) (ha : a < d.size) (hb : b < d.size) (hs : s ≤ 1000) :
    DC Tryz.prog slices_order2Ordered_int.id [dataV d.size, vi a, vi b, .ptr 1 1 0 0] [rowsO d, swO s] (fun r H => r = .tup [vi (Go.Sort.order2 Go.Sort.ltInt d a b s).1, vi (Go.Sort.order2 Go.Sort.ltInt d a b s).2.1] ∧ H = [rowsO d, swO (Go.Sort.order2 Go.Sort.ltInt d a b s).2.2]) := by
  refine DC.of slices_order2Ordered_int.ok (by simp) ?_
  have hw : IntKind.i64.wrap ((s : Int) + 1) = ((s + 1 : Nat) : Int) := by rw [wrap64] <;> omega
  simp -dsimp [↓call_f, slices_order2Ordered_int.ir, slices_order2Ordered_int.rs, ha, hb]
  refine (less_spec d[b] d[a]).use ?_
  unfold Go.Sort.order2
  rw [get_bang d ha, get_bang d hb]
  by_cases hlt : Go.Sort.ltInt d[b] d[a] = true
  · simp -dsimp [hlt, hw, slices_order2Ordered_int.rs]
  · have hlt : Go.Sort.ltInt d[b] d[a] = false := by simpa using hlt
    simp -dsimp [hlt, slices_order2Ordered_int.rs]

theorem order2_bound (d : Array Int) (a b s n : Nat) (ha : a < n) (hb : b < n) : (Go.Sort.order2 Go.Sort.ltInt d a b s).1 < n ∧ (Go.Sort.order2 Go.Sort.ltInt d a b s).2.1 < n ∧ (Go.Sort.order2 Go.Sort.ltInt d a b s).2.2 ≤ s + 1 := by
  unfold Go.Sort.order2
  split <;> simp <;> omega

theorem median_spec (d : Array Int) (a b c s : Nat) (ha : a < d.size) (hb : b < d.size) (hc : c < d.size) (hs : s ≤ 900) :
    DC Tryz.prog slices_medianOrdered_int.id [dataV d.size, vi a, vi b, vi c, .ptr 1 1 0 0] [rowsO d, swO s] (fun r H => r = vi (Go.Sort.median Go.Sort.ltInt d a b c s).1 ∧ H = [rowsO d, swO (Go.Sort.median Go.Sort.ltInt d a b c s).2]) := by
  refine DC.of slices_medianOrdered_int.ok (by simp) ?_
  have hn := order2_bound d a b s d.size ha hb
  have g1 := order2_spec d a b s ha hb (by omega)
  unfold Go.Sort.median
  generalize Go.Sort.order2 Go.Sort.ltInt d a b s = r1 at *
  obtain ⟨a1, b1, s1⟩ := r1
  simp only at hn g1 ⊢
  have hn2 := order2_bound d b1 c s1 d.size hn.2.1 hc
  have g2 := order2_spec d b1 c s1 hn.2.1 hc (by omega)
  generalize Go.Sort.order2 Go.Sort.ltInt d b1 c s1 = r2 at *
  obtain ⟨b2, c2, s2⟩ := r2
  simp only at hn2 g2 ⊢
  have hn3 := order2_bound d a1 b2 s2 d.size hn.1 hn2.1
  have g3 := order2_spec d a1 b2 s2 hn.1 hn2.1 (by omega)
  generalize Go.Sort.order2 Go.Sort.ltInt d a1 b2 s2 = r3 at *
  obtain ⟨a3, b3, s3⟩ := r3
  simp only at hn3 g3 ⊢
  simp -dsimp [↓callm_fn, slices_medianOrdered_int.ir]
  refine DC.mono g1 fun r H ⟨hr, hH⟩ => ?_
  subst hr hH
  simp -dsimp [↓callm_fn]
  refine DC.mono g2 fun r H ⟨hr, hH⟩ => ?_
  subst hr hH
  simp -dsimp [↓callm_fn]
  refine DC.mono g3 fun r H ⟨hr, hH⟩ => ?_
  subst hr hH
  simp -dsimp [slices_medianOrdered_int.rs]

theorem median_bound (d : Array Int) (a b c s n : Nat) (ha : a < n) (hb : b < n) (hc : c < n) : (Go.Sort.median Go.Sort.ltInt d a b c s).1 < n ∧ (Go.Sort.median Go.Sort.ltInt d a b c s).2 ≤ s + 3 := by
  have h1 := order2_bound d a b s n ha hb
  unfold Go.Sort.median
  simp only
  generalize Go.Sort.order2 Go.Sort.ltInt d a b s = r1 at *
  have h2 := order2_bound d r1.2.1 c r1.2.2 n h1.2.1 hc
  generalize Go.Sort.order2 Go.Sort.ltInt d r1.2.1 c r1.2.2 = r2 at *
  have h3 := order2_bound d r1.1 r2.1 r2.2.2 n h1.1 h2.1
  generalize Go.Sort.order2 Go.Sort.ltInt d r1.1 r2.1 r2.2.2 = r3 at *
  exact ⟨h3.2.1, by omega⟩

theorem medianAdj_spec (d : Array Int) (a s : Nat) (h1 : 1 ≤ a) (ha : a + 1 < d.size) (hz : d.size ≤ 4611686018427387904) (hs : s ≤ 900) :
    DC Tryz.prog slices_medianAdjacentOrdered_int.id [dataV d.size, vi a, .ptr 1 1 0 0] [rowsO d, swO s] (fun r H => r = vi (Go.Sort.medianAdjacent Go.Sort.ltInt d a s).1 ∧ H = [rowsO d, swO (Go.Sort.medianAdjacent Go.Sort.ltInt d a s).2]) := by
  refine DC.of slices_medianAdjacentOrdered_int.ok (by simp) ?_
  have hw : IntKind.i64.wrap ((a : Int) + 1) = ((a + 1 : Nat) : Int) := by rw [wrap64] <;> omega
  have hw2 : IntKind.i64.wrap ((a : Int) - 1) = ((a - 1 : Nat) : Int) := by rw [wrap64] <;> omega
  have g := median_spec d (a - 1) a (a + 1) s (by omega) (by omega) ha hs
  unfold Go.Sort.medianAdjacent
  generalize Go.Sort.median Go.Sort.ltInt d (a - 1) a (a + 1) s = r at *
  obtain ⟨m, s'⟩ := r
  have e1 : ((a - 1 : Nat) : Int) = ((a - 1 : Nat) : Int) := rfl
  simp -dsimp [↓callm_fn, slices_medianAdjacentOrdered_int.ir, hw, hw2]
  refine DC.mono g fun r H ⟨hr, hH⟩ => ?_
  subst hr hH
  simp -dsimp [slices_medianAdjacentOrdered_int.rs]
end Go.Abs.G


namespace Go.Abs.G
open Go.Proofs
attribute [local simp] I.vc sub merge place
set_option linter.unusedVariables false
set_option linter.unusedSimpArgs false

def hintN : Go.Sort.Hint → Int
  | .unknown => 0
  | .increasing => 1
  | .decreasing => 2

theorem medianAdj_bound (d : Array Int) (a s n : Nat) (h1 : 1 ≤ a) (ha : a + 1 < n) : (Go.Sort.medianAdjacent Go.Sort.ltInt d a s).1 < n ∧ (Go.Sort.medianAdjacent Go.Sort.ltInt d a s).2 ≤ s + 3 :=
  median_bound d (a - 1) a (a + 1) s n (by omega) (by omega) ha

theorem choosePivot_spec (d : Array Int) (a b : Nat) (hab : a + 12 < b) (hb : b ≤ d.size) (hz : d.size ≤ 4611686018427387904) :
    DC Tryz.prog slices_choosePivotOrdered_int.id [dataV d.size, vi a, vi b] [rowsO d] (fun r H => r = .tup [vi (Go.Sort.choosePivot Go.Sort.ltInt d a b).1, vi (hintN (Go.Sort.choosePivot Go.Sort.ltInt d a b).2)] ∧ ∃ o, H = [rowsO d, o]) := by
  refine DC.of slices_choosePivotOrdered_int.ok (by simp) ?_
  unfold slices_choosePivotOrdered_int.ir
  obtain ⟨l, hl⟩ : ∃ l, l = b - a := ⟨_, rfl⟩
  have w0 : IntKind.i64.wrap ((b : Int) - a) = (l : Int) := by rw [wrap64] <;> omega
  have y0 : IntKind.i64.wrap ((l : Int) / 4) = (l : Int) / 4 := by rw [wrap64] <;> omega
  have y2 : IntKind.i64.wrap ((l : Int) / 4 * 2) = (l : Int) / 4 * 2 := by rw [wrap64] <;> omega
  have y3 : IntKind.i64.wrap ((l : Int) / 4 * 3) = (l : Int) / 4 * 3 := by rw [wrap64] <;> omega
  have x1 : IntKind.i64.wrap ((a : Int) + (l : Int) / 4) = (a : Int) + (l : Int) / 4 := by rw [wrap64] <;> omega
  have x2 : IntKind.i64.wrap ((a : Int) + (l : Int) / 4 * 2) = (a : Int) + (l : Int) / 4 * 2 := by rw [wrap64] <;> omega
  have x3 : IntKind.i64.wrap ((a : Int) + (l : Int) / 4 * 3) = (a : Int) + (l : Int) / 4 * 3 := by rw [wrap64] <;> omega
  refine vc_cut (fun s => gt s.sl 0 = dataV d.size ∧ gt s.sl 1 = vi a ∧ gt s.sl 2 = vi b ∧ s.hp = [rowsO d]) (by simp -dsimp) ?_
  rintro ⟨sl, hp, bs⟩ ⟨h0, h1, h2, rfl⟩
  refine vc_cut (fun s => gt s.sl 0 = dataV d.size ∧ gt s.sl 1 = vi a ∧ gt s.sl 8 = vi l ∧ s.hp = [rowsO d]) (by simp -dsimp [h0, h1, h2, w0]) ?_
  rintro ⟨sl, hp, bs⟩ ⟨h0, h1, h8, rfl⟩
  refine vc_cut (fun s => gt s.sl 0 = dataV d.size ∧ gt s.sl 1 = vi a ∧ gt s.sl 8 = vi l ∧ gt s.sl 9 = .ptr 1 1 0 0 ∧ s.hp = [rowsO d, swO 0]) (by simp -dsimp [h0, h1, h8]) ?_
  rintro ⟨sl, hp, bs⟩ ⟨h0, h1, h8, h9, rfl⟩
  refine vc_cut (fun s => gt s.sl 0 = dataV d.size ∧ gt s.sl 1 = vi a ∧ gt s.sl 8 = vi l ∧ gt s.sl 9 = .ptr 1 1 0 0 ∧ gt s.sl 10 = vi (a + l / 4 * 1 : Nat) ∧ s.hp = [rowsO d, swO 0]) (by simp -dsimp [h0, h1, h8, h9, y0, x1]) ?_
  rintro ⟨sl, hp, bs⟩ ⟨h0, h1, h8, h9, h10, rfl⟩
  refine vc_cut (fun s => gt s.sl 0 = dataV d.size ∧ gt s.sl 1 = vi a ∧ gt s.sl 8 = vi l ∧ gt s.sl 9 = .ptr 1 1 0 0 ∧ gt s.sl 10 = vi (a + l / 4 * 1 : Nat) ∧ gt s.sl 11 = vi (a + l / 4 * 2 : Nat) ∧ s.hp = [rowsO d, swO 0]) (by simp -dsimp [h0, h1, h8, h9, h10, y0, y2, x2]) ?_
  rintro ⟨sl, hp, bs⟩ ⟨h0, h1, h8, h9, h10, h11, rfl⟩
  refine vc_cut (fun s => gt s.sl 0 = dataV d.size ∧ gt s.sl 8 = vi l ∧ gt s.sl 9 = .ptr 1 1 0 0 ∧ gt s.sl 10 = vi (a + l / 4 * 1 : Nat) ∧ gt s.sl 11 = vi (a + l / 4 * 2 : Nat) ∧ gt s.sl 12 = vi (a + l / 4 * 3 : Nat) ∧ s.hp = [rowsO d, swO 0]) (by simp -dsimp [h0, h1, h8, h9, h10, h11, y0, y3, x3]) ?_
  rintro ⟨sl, hp, bs⟩ ⟨h0, h8, h9, h10, h11, h12, rfl⟩
  have hc : Go.Sort.choosePivot Go.Sort.ltInt d a b = ((if l ≥ 50 then
        let ri := Go.Sort.medianAdjacent Go.Sort.ltInt d (a + l / 4 * 1) 0
        let rj := Go.Sort.medianAdjacent Go.Sort.ltInt d (a + l / 4 * 2) ri.2
        let rk := Go.Sort.medianAdjacent Go.Sort.ltInt d (a + l / 4 * 3) rj.2
        Go.Sort.median Go.Sort.ltInt d ri.1 rj.1 rk.1 rk.2
      else Go.Sort.median Go.Sort.ltInt d (a + l / 4 * 1) (a + l / 4 * 2) (a + l / 4 * 3) 0 : Nat × Nat).1, if (if l ≥ 50 then
        let ri := Go.Sort.medianAdjacent Go.Sort.ltInt d (a + l / 4 * 1) 0
        let rj := Go.Sort.medianAdjacent Go.Sort.ltInt d (a + l / 4 * 2) ri.2
        let rk := Go.Sort.medianAdjacent Go.Sort.ltInt d (a + l / 4 * 3) rj.2
        Go.Sort.median Go.Sort.ltInt d ri.1 rj.1 rk.1 rk.2
      else Go.Sort.median Go.Sort.ltInt d (a + l / 4 * 1) (a + l / 4 * 2) (a + l / 4 * 3) 0 : Nat × Nat).2 = 0 then .increasing else if (if l ≥ 50 then
        let ri := Go.Sort.medianAdjacent Go.Sort.ltInt d (a + l / 4 * 1) 0
        let rj := Go.Sort.medianAdjacent Go.Sort.ltInt d (a + l / 4 * 2) ri.2
        let rk := Go.Sort.medianAdjacent Go.Sort.ltInt d (a + l / 4 * 3) rj.2
        Go.Sort.median Go.Sort.ltInt d ri.1 rj.1 rk.1 rk.2
      else Go.Sort.median Go.Sort.ltInt d (a + l / 4 * 1) (a + l / 4 * 2) (a + l / 4 * 3) 0 : Nat × Nat).2 = 12 then .decreasing else .unknown) := by
    unfold Go.Sort.choosePivot
    simp only [← hl]
    rw [if_pos (show l ≥ 8 by omega)]
  rw [hc]
  have i8 : (8 : Int) ≤ l := by omega
  generalize hI : a + l / 4 * 1 = I at *
  generalize hJ : a + l / 4 * 2 = J at *
  generalize hK : a + l / 4 * 3 = K at *
  obtain ⟨r, hr⟩ : ∃ r : Nat × Nat, (if l ≥ 50 then
        let ri := Go.Sort.medianAdjacent Go.Sort.ltInt d I 0
        let rj := Go.Sort.medianAdjacent Go.Sort.ltInt d J ri.2
        let rk := Go.Sort.medianAdjacent Go.Sort.ltInt d K rj.2
        Go.Sort.median Go.Sort.ltInt d ri.1 rj.1 rk.1 rk.2
      else Go.Sort.median Go.Sort.ltInt d I J K 0) = r := ⟨_, rfl⟩
  rw [hr]
  refine vc_cut (fun s => gt s.sl 9 = .ptr 1 1 0 0 ∧ gt s.sl 11 = vi r.1 ∧ s.hp = [rowsO d, swO r.2]) ?_ ?_
  · by_cases h50 : 50 ≤ l
    · have i50 : (50 : Int) ≤ l := by omega
      rw [if_pos h50] at hr
      have b1 := medianAdj_bound d I 0 d.size (by omega) (by omega)
      have s1 := medianAdj_spec d I 0 (by omega) (by omega) hz (by omega)
      simp only at hr
      generalize Go.Sort.medianAdjacent Go.Sort.ltInt d I 0 = r1 at b1 s1 hr
      obtain ⟨I', t1⟩ := r1
      have b2 := medianAdj_bound d J t1 d.size (by omega) (by omega)
      have s2 := medianAdj_spec d J t1 (by omega) (by omega) hz (by simp at b1; omega)
      simp only at hr
      generalize Go.Sort.medianAdjacent Go.Sort.ltInt d J t1 = r2 at b2 s2 hr
      obtain ⟨J', t2⟩ := r2
      have b3 := medianAdj_bound d K t2 d.size (by omega) (by omega)
      have s3 := medianAdj_spec d K t2 (by omega) (by omega) hz (by simp at b1 b2; omega)
      simp only at hr
      generalize Go.Sort.medianAdjacent Go.Sort.ltInt d K t2 = r3 at b3 s3 hr
      obtain ⟨K', t3⟩ := r3
      simp only at b1 b2 b3 s1 s2 s3
      have s4 := median_spec d I' J' K' t3 b1.1 b2.1 b3.1 (by omega)
      simp only at hr
      rw [hr] at s4
      obtain ⟨M, t4⟩ := r
      simp only at s4
      simp -dsimp [↓callm_fn, h0, h8, h9, h10, h11, h12, i8, i50]
      refine DC.mono s1 fun r H ⟨hr, hH⟩ => ?_
      subst hr hH
      simp -dsimp [↓callm_fn, h0, h8, h9, h10, h11, h12]
      refine DC.mono s2 fun r H ⟨hr, hH⟩ => ?_
      subst hr hH
      simp -dsimp [↓callm_fn, h0, h8, h9, h10, h11, h12]
      refine DC.mono s3 fun r H ⟨hr, hH⟩ => ?_
      subst hr hH
      simp -dsimp [↓callm_fn, h0, h8, h9, h10, h11, h12]
      refine DC.mono s4 fun r H ⟨hr, hH⟩ => ?_
      subst hr hH
      simp -dsimp [h0, h8, h9, h10, h11, h12]
    · have i50 : ¬ (50 : Int) ≤ l := by omega
      rw [if_neg h50] at hr
      have s4 := median_spec d I J K 0 (by omega) (by omega) (by omega) (by omega)
      rw [hr] at s4
      obtain ⟨M, t4⟩ := r
      simp only at s4
      simp -dsimp [↓callm_fn, h0, h8, h9, h10, h11, h12, i8, i50]
      refine DC.mono s4 fun r H ⟨hr, hH⟩ => ?_
      subst hr hH
      simp -dsimp [h0, h8, h9, h10, h11, h12]
  rintro ⟨sl, hp, bs⟩ ⟨h9, h11, rfl⟩
  clear hr hc
  obtain ⟨M, t⟩ := r
  by_cases ht0 : t = 0
  · subst ht0
    simp -dsimp [h9, h11, slices_choosePivotOrdered_int.rs, hintN]
  · have i0 : ¬ (t : Int) = 0 := by omega
    by_cases ht : t = 12
    · subst ht
      simp -dsimp [h9, h11, slices_choosePivotOrdered_int.rs, hintN]
    · have i12 : ¬ (t : Int) = 12 := by omega
      simp -dsimp [h9, h11, slices_choosePivotOrdered_int.rs, hintN, ht0, i0, ht, i12]
end Go.Abs.G


namespace Go.Abs.G
open Go.Proofs
attribute [local simp] I.vc sub merge place
set_option linter.unusedVariables false
set_option linter.unusedSimpArgs false

@[simp] theorem ren_comp (f : Nat → Nat) : ((fun r => V.renL f r) ∘ fun n : Int => [V.a (Value.int IntKind.i64 n)]) = fun n => [V.a (Value.int IntKind.i64 n)] := by
  funext n; simp [V.renL, V.ren]

theorem siftDown_size (hi first : Nat) : ∀ (k root : Nat) (d : Array Int), hi - root ≤ k → (Go.Sort.siftDown Go.Sort.ltInt hi first root d).size = d.size := by
  intro k
  induction k with
  | zero =>
    intro root d h
    rw [Go.Sort.siftDown, dif_pos (by omega)]
  | succ k ih =>
    intro root d h
    rw [Go.Sort.siftDown]
    split
    · rfl
    · split
      · split
        · rfl
        · split
          · rw [ih _ _ (by omega), swp_size]
          · rfl
      · split
        · rfl
        · rw [ih _ _ (by omega), swp_size]

theorem sift_spec (d : Array Int) (lo hi first : Nat) (hf : first + hi ≤ d.size) (hlo : lo ≤ d.size) (hs : d.size ≤ 1152921504606846976) :
    DC Tryz.prog slices_siftDownOrdered_int.id [dataV d.size, vi lo, vi hi, vi first] [rowsO d] (fun r H => H = [rowsO (Go.Sort.siftDown Go.Sort.ltInt hi first lo d)]) := by
  refine DC.of slices_siftDownOrdered_int.ok (by simp) ?_
  obtain ⟨S, hS⟩ : ∃ S, Go.Sort.siftDown Go.Sort.ltInt hi first lo d = S := ⟨_, rfl⟩
  rw [hS]
  simp -dsimp [↓loop_f, slices_siftDownOrdered_int.ir, slices_siftDownOrdered_int.rs]
  refine WI.loop 1 (by simp) (fun s => ∃ (root : Nat) (d' : Array Int), root ≤ d.size ∧ d'.size = d.size ∧ gt s.sl 0 = dataV d.size ∧ gt s.sl 2 = vi hi ∧ gt s.sl 3 = vi first ∧ gt s.sl 8 = vi root ∧ s.hp = [rowsO d'] ∧ S = Go.Sort.siftDown Go.Sort.ltInt hi first root d') (fun s => (hi - (gt s.sl 8).num).toNat) ?_ ?_
  · exact ⟨lo, d, hlo, rfl, by simp, by simp, by simp, by simp, rfl, hS.symm⟩
  · rintro ⟨sl, hp, bs⟩ ⟨root, d', hroot, hd, h0, h2, h3, h8, rfl, he⟩
    have g8 := h8
    rw [Go.Sort.siftDown] at he
    have w1 : IntKind.i64.wrap (2 * (root : Int)) = ((2 * root : Nat) : Int) := by rw [wrap64] <;> omega
    have w2 : IntKind.i64.wrap (2 * (root : Int) + 1) = ((2 * root + 1 : Nat) : Int) := by rw [wrap64] <;> omega
    unfold slices_siftDownOrdered_int.b0
    refine vc_block_of (vc_cut (fun s => gt s.sl 0 = dataV d.size ∧ gt s.sl 2 = vi hi ∧ gt s.sl 3 = vi first ∧ gt s.sl 8 = vi root ∧ gt s.sl 9 = vi (2 * root + 1 : Nat) ∧ s.hp = [rowsO d']) (by simp -dsimp [h0, h2, h3, h8, w1, w2]) ?_)
    rintro ⟨sl, hp, bs⟩ ⟨h0, h2, h3, h8, h9, rfl⟩
    by_cases hge : 2 * root + 1 ≥ hi
    · rw [dif_pos hge] at he
      have i1 : (hi : Int) ≤ 2 * (root : Int) + 1 := by omega
      simp -dsimp [h0, h2, h3, h8, h9, i1, he]
    rw [dif_neg hge] at he
    have i1 : ¬ (hi : Int) ≤ 2 * (root : Int) + 1 := by omega
    refine vc_cut (fun s => gt s.sl 0 = dataV d.size ∧ gt s.sl 2 = vi hi ∧ gt s.sl 3 = vi first ∧ gt s.sl 8 = vi root ∧ gt s.sl 9 = vi (2 * root + 1 : Nat) ∧ s.hp = [rowsO d']) (by simp -dsimp [h0, h2, h3, h8, h9, i1]) ?_
    rintro ⟨sl, hp, bs⟩ ⟨h0, h2, h3, h8, h9, rfl⟩
    have k1 : first + (2 * root + 1) < d'.size := by omega
    have k0 : first + root < d'.size := by omega
    -- which child
    refine vc_cut (fun s => gt s.sl 0 = dataV d.size ∧ gt s.sl 2 = vi hi ∧ gt s.sl 3 = vi first ∧ gt s.sl 8 = vi root ∧ (∃ c : Nat, gt s.sl 9 = vi c ∧ root < c ∧ c < hi ∧ S = (if (!Go.Sort.ltInt d'[first + root]! d'[first + c]!) = true then d' else Go.Sort.siftDown Go.Sort.ltInt hi first c (Go.Sort.swp d' (first + root) (first + c)))) ∧ s.hp = [rowsO d']) ?_ ?_
    · have w3 : IntKind.i64.wrap (2 * (root : Int) + 1 + 1) = ((2 * root + 2 : Nat) : Int) := by rw [wrap64] <;> omega
      by_cases h2lt : 2 * root + 1 + 1 < hi
      · have i2 : 2 * (root : Int) + 2 < hi := by omega
        have k2 : first + (2 * root + 1) + 1 < d'.size := by omega
        have k1' : first + (2 * root + 1) < d.size := by omega
        have k2' : first + (2 * root + 1) + 1 < d.size := by omega
        obtain ⟨p, hp⟩ : ∃ p : Nat, first + (2 * root + 1) = p := ⟨_, rfl⟩
        rw [hp] at k2 k1' k2' k1 he
        have w4 : IntKind.i64.wrap ((first : Int) + (2 * (root : Int) + 1)) = (p : Int) := by rw [wrap64] <;> omega
        have w5 : IntKind.i64.wrap ((p : Int) + 1) = ((p + 1 : Nat) : Int) := by rw [wrap64] <;> omega
        have k5 : (p : Int) + 1 < d.size := by omega
        have k6 : (0 : Int) ≤ (p : Int) + 1 := by omega
        rw [get_bang d' k1, get_bang d' k2] at he
        simp -dsimp [↓call_f, h0, h2, h3, h8, h9, hd, w3, i2, w4, w5, k1', k2', k5, k6]
        refine (less_spec d'[p] d'[p + 1]).use ?_
        have wc : IntKind.i64.wrap (2 * (root : Int) + 1 + 1) = 2 * (root : Int) + 2 := by rw [wrap64] <;> omega
        by_cases hlt : Go.Sort.ltInt d'[p] d'[p + 1] = true
        · rw [hlt, if_pos (by simp; omega)] at he
          simp -dsimp [hlt, h0, h2, h3, h8, h9]
          refine ⟨2 * root + 2, by omega, by omega, by omega, ?_⟩
          rw [dif_pos (show 2 * root + 2 < hi by omega)] at he
          rw [he]
          cases Go.Sort.ltInt d'[first + root]! d'[first + (2 * root + 2)]! <;> rfl
        · have hlt : Go.Sort.ltInt d'[p] d'[p + 1] = false := by simpa using hlt
          rw [hlt, if_neg (by simp)] at he
          simp -dsimp [hlt, h0, h2, h3, h8, h9]
          refine ⟨2 * root + 1, by omega, by omega, by omega, ?_⟩
          rw [he, hp, get_bang d' k1]
          cases Go.Sort.ltInt d'[first + root]! d'[p] <;> rfl
      · have i2 : ¬ 2 * (root : Int) + 2 < hi := by omega
        rw [if_neg (by simp; omega)] at he
        simp -dsimp [↓call_f, h0, h2, h3, h8, h9, w3, i2]
        refine ⟨2 * root + 1, by omega, by omega, by omega, ?_⟩
        rw [he]
        cases Go.Sort.ltInt d'[first + root]! d'[first + (2 * root + 1)]! <;> rfl
    clear h0 h2 h3 h8 h9
    rintro ⟨sl, hp, bs⟩ ⟨h0, h2, h3, h8, ⟨c, h9, hc1, hc2, he⟩, rfl⟩
    have k3 : first + c < d'.size := by omega
    have hne : ¬ first + root = first + c := by omega
    obtain ⟨p, hp⟩ : ∃ p : Nat, first + root = p := ⟨_, rfl⟩
    obtain ⟨q, hq⟩ : ∃ q : Nat, first + c = q := ⟨_, rfl⟩
    rw [hp] at k0 hne he
    rw [hq] at k3 hne he
    have w6 : IntKind.i64.wrap ((first : Int) + root) = (p : Int) := by rw [wrap64] <;> omega
    have w7 : IntKind.i64.wrap ((first : Int) + c) = (q : Int) := by rw [wrap64] <;> omega
    have k3' : q < d.size := by omega
    have k0' : p < d.size := by omega
    have hsw := swp_rows d' k0 k3
    rw [get_bang d' k0, get_bang d' k3] at he
    simp -dsimp [↓call_f, h0, h2, h3, h8, h9, hd, w6, w7, k0', k3']
    refine (less_spec d'[p] d'[q]).use ?_
    by_cases hlt : Go.Sort.ltInt d'[p] d'[q] = true
    · rw [hlt] at he
      simp -dsimp [hlt, h0, h2, h3, h8, h9, hd, w6, w7, k0', k3', hne, List.getElem_set, g8]
      exact ⟨⟨c, by omega, Go.Sort.swp d' p q, by rw [swp_size]; exact hd, rfl, hsw, by simpa using he⟩, by omega⟩
    · have hlt : Go.Sort.ltInt d'[p] d'[q] = false := by simpa using hlt
      rw [hlt] at he
      have he : S = d' := by simpa using he
      simp -dsimp [hlt, h0, h2, h3, h8, h9, he]

theorem heapBuild_size (hi first : Nat) : ∀ (k : Nat) (d : Array Int), (Go.Sort.heapBuild Go.Sort.ltInt hi first k d).size = d.size := by
  intro k
  induction k with
  | zero => intro d; rfl
  | succ k ih => intro d; simp only [Go.Sort.heapBuild]; rw [ih, siftDown_size hi first (hi - k) k d (Nat.le_refl _)]

set_option maxHeartbeats 1000000 in
theorem heap_spec (d : Array Int) (a b : Nat) (hab : a < b) (hb : b ≤ d.size) (hs : d.size ≤ 1152921504606846976) :
    DC Tryz.prog slices_heapSortOrdered_int.id [dataV d.size, vi a, vi b] [rowsO d] (fun r H => H = [rowsO (Go.Sort.heapSort Go.Sort.ltInt d a b)]) := by
  refine DC.of slices_heapSortOrdered_int.ok (by simp) ?_
  obtain ⟨l, hl⟩ : ∃ l, b - a = l := ⟨_, rfl⟩
  obtain ⟨S, hS⟩ : ∃ S, Go.Sort.heapSort Go.Sort.ltInt d a b = S := ⟨_, rfl⟩
  rw [hS]
  unfold Go.Sort.heapSort at hS
  rw [hl] at hS
  have w0 : IntKind.i64.wrap ((b : Int) - a) = (l : Int) := by rw [wrap64] <;> omega
  have w1 : IntKind.i64.wrap ((l : Int) - 1) = ((l - 1 : Nat) : Int) := by rw [wrap64] <;> omega
  have w2 : IntKind.i64.wrap (((l - 1 : Nat) : Int) / 2) = (((l - 1) / 2 : Nat) : Int) := by
    rw [wrap64] <;> omega
  unfold slices_heapSortOrdered_int.ir
  refine vc_cut (fun s => gt s.sl 0 = dataV d.size ∧ gt s.sl 1 = vi a ∧ gt s.sl 2 = vi b ∧ gt s.sl 6 = vi a ∧ s.hp = [rowsO d]) (by simp -dsimp) ?_
  rintro ⟨sl, hp, bs⟩ ⟨h0, h1, h2, h6, rfl⟩
  refine vc_cut (fun s => gt s.sl 0 = dataV d.size ∧ gt s.sl 1 = vi a ∧ gt s.sl 2 = vi b ∧ gt s.sl 6 = vi a ∧ gt s.sl 7 = vi 0 ∧ s.hp = [rowsO d]) (by simp -dsimp [h0, h1, h2, h6]) ?_
  rintro ⟨sl, hp, bs⟩ ⟨h0, h1, h2, h6, h7, rfl⟩
  refine vc_cut (fun s => gt s.sl 0 = dataV d.size ∧ gt s.sl 6 = vi a ∧ gt s.sl 7 = vi 0 ∧ gt s.sl 8 = vi l ∧ s.hp = [rowsO d]) (by simp -dsimp [h0, h1, h2, h6, h7, w0]) ?_
  rintro ⟨sl, hp, bs⟩ ⟨h0, h6, h7, h8, rfl⟩
  obtain ⟨m, hm⟩ : ∃ m, l - 1 = m := ⟨_, rfl⟩
  obtain ⟨k, hk⟩ : ∃ k, m / 2 = k := ⟨_, rfl⟩
  rw [hm] at w1 w2 hS
  rw [hk] at w2 hS
  obtain ⟨B, hB⟩ : ∃ B, Go.Sort.heapBuild Go.Sort.ltInt l a (k + 1) d = B := ⟨_, rfl⟩
  rw [hB] at hS
  have hBs : B.size = d.size := by rw [← hB, heapBuild_size]
  refine vc_cut (fun s => gt s.sl 0 = dataV d.size ∧ gt s.sl 6 = vi a ∧ gt s.sl 7 = vi 0 ∧ gt s.sl 8 = vi l ∧ s.hp = [rowsO B]) ?_ ?_
  · simp -dsimp [↓loop_f, h0, h6, h7, h8, w1, w2]
    refine WI.mono (Q := fun e s => e = .exit 0 ∧ gt s.sl 0 = dataV d.size ∧ gt s.sl 6 = vi a ∧ gt s.sl 7 = vi 0 ∧ gt s.sl 8 = vi l ∧ s.hp = [rowsO B]) (WI.loop 1 (by simp) (fun s => ∃ (r : Nat) (d' : Array Int), r ≤ k + 1 ∧ d'.size = d.size ∧ gt s.sl 0 = dataV d.size ∧ gt s.sl 6 = vi a ∧ gt s.sl 7 = vi 0 ∧ gt s.sl 8 = vi l ∧ gt s.sl 9 = vi ((r : Int) - 1) ∧ s.hp = [rowsO d'] ∧ B = Go.Sort.heapBuild Go.Sort.ltInt l a r d') (fun s => ((gt s.sl 9).num + 1).toNat) ?_ ?_) ?_
    · exact ⟨k + 1, d, Nat.le_refl _, rfl, by simp, by simp, by simp, by simp, by simp, rfl, hB.symm⟩
    · clear h0 h6 h7 h8
      rintro ⟨sl, hp, bs⟩ ⟨r, d', hr, hd, h0, h6, h7, h8, h9, rfl, he⟩
      cases r with
      | zero =>
        have he : B = d' := he
        have e9 : ((0 : Nat) : Int) - 1 = -1 := rfl
        rw [e9] at h9
        simp -dsimp [slices_heapSortOrdered_int.b0, h0, h6, h7, h8, h9, he]
      | succ r =>
        have e9 : ((r + 1 : Nat) : Int) - 1 = (r : Int) := by omega
        rw [e9] at h9
        have hw : IntKind.i64.wrap ((r : Int) - 1) = (r : Int) - 1 := by rw [wrap64] <;> omega
        have hsp := sift_spec d' r l a (by omega) (by omega) (by omega)
        rw [hd] at hsp
        simp -dsimp [↓callm_fn, slices_heapSortOrdered_int.b0, h0, h6, h7, h8, h9]
        refine DC.mono hsp fun _ H hH => ?_
        subst hH
        simp -dsimp [h0, h6, h7, h8, h9, hw]
        exact ⟨⟨r, by omega, Go.Sort.siftDown Go.Sort.ltInt l a r d', by rw [siftDown_size l a (l - r) r d' (Nat.le_refl _)]; exact hd, rfl, rfl, he⟩, by omega⟩
    · rintro e ⟨sl, hp, bs⟩ ⟨rfl, h0, h6, h7, h8, rfl⟩
      simp [h0, h6, h7, h8]
  clear h0 h6 h7 h8
  rintro ⟨sl, hp, bs⟩ ⟨h0, h6, h7, h8, rfl⟩
  simp -dsimp [↓loop_f, h0, h6, h7, h8, w1]
  refine WI.mono (Q := fun e s => e = .exit 2 ∧ s.hp = [rowsO S]) (WI.loop 1 (by simp) (fun s => ∃ (r : Nat) (d' : Array Int), r ≤ l ∧ d'.size = d.size ∧ gt s.sl 0 = dataV d.size ∧ gt s.sl 6 = vi a ∧ gt s.sl 7 = vi 0 ∧ gt s.sl 10 = vi ((r : Int) - 1) ∧ s.hp = [rowsO d'] ∧ S = Go.Sort.heapPop Go.Sort.ltInt a r d') (fun s => ((gt s.sl 10).num + 1).toNat) ?_ ?_) ?_
  · exact ⟨l, B, Nat.le_refl _, hBs, by simp, by simp, by simp, by simp; omega, rfl, hS.symm⟩
  · clear h0 h6 h7 h8
    rintro ⟨sl, hp, bs⟩ ⟨r, d', hr, hd, h0, h6, h7, h9, rfl, he⟩
    cases r with
    | zero =>
      have he : S = d' := he
      have e9 : ((0 : Nat) : Int) - 1 = -1 := rfl
      rw [e9] at h9
      simp -dsimp [slices_heapSortOrdered_int.b1, h0, h6, h7, h9, he]
    | succ r =>
      have e9 : ((r + 1 : Nat) : Int) - 1 = (r : Int) := by omega
      rw [e9] at h9
      obtain ⟨q, hq⟩ : ∃ q, a + r = q := ⟨_, rfl⟩
      have he : S = Go.Sort.heapPop Go.Sort.ltInt a r (Go.Sort.siftDown Go.Sort.ltInt r a 0 (Go.Sort.swp d' a (a + r))) := he
      rw [hq] at he
      have hw : IntKind.i64.wrap ((r : Int) - 1) = (r : Int) - 1 := by rw [wrap64] <;> omega
      have hwq : IntKind.i64.wrap ((a : Int) + r) = (q : Int) := by rw [wrap64] <;> omega
      have ka : a < d'.size := by omega
      have kq : q < d'.size := by omega
      have ka' : a < d.size := by omega
      have kq' : q < d.size := by omega
      have hsw := swp_rows d' ka kq
      have hrows : rowsO (Go.Sort.swp d' a q) = .mem false [] (((d'.toList.map fun n => [V.a (.int .i64 n)]).set a [V.a (.int .i64 d'[q])]).set q [V.a (.int .i64 d'[a])]) := by rw [hsw]
      have hsp := sift_spec (Go.Sort.swp d' a q) 0 r a (by rw [swp_size]; omega) (by omega) (by rw [swp_size]; omega)
      obtain ⟨D, hD⟩ : ∃ D, Go.Sort.siftDown Go.Sort.ltInt r a 0 (Go.Sort.swp d' a q) = D := ⟨_, rfl⟩
      have hDs : D.size = d.size := by rw [← hD, siftDown_size r a (r - 0) 0 _ (Nat.le_refl _), swp_size]; exact hd
      rw [hD] at he hsp
      have h00 : ((0 : Nat) : Int) = 0 := rfl
      rw [swp_size, hd, hrows, h00] at hsp
      by_cases haq : a = q
      · have hrr : r = 0 := by omega
        clear hrows hsw hD
        subst haq
        simp only [List.set_set] at hsp
        simp -dsimp [↓callm_fn, slices_heapSortOrdered_int.b1, h0, h6, h7, h9, hd, hwq, ka', kq', List.getElem_set]
        refine DC.mono hsp fun _ H hH => ?_
        subst hH
        simp -dsimp [h0, h6, h7, h9, hw, hd, hwq, ka', kq', List.getElem_set]
        exact ⟨⟨r, by omega, D, hDs, rfl, rfl, he⟩, by omega⟩
      · clear hrows hsw hD
        simp -dsimp [↓callm_fn, slices_heapSortOrdered_int.b1, h0, h6, h7, h9, hd, hwq, ka', kq', haq, List.getElem_set]
        refine DC.mono hsp fun _ H hH => ?_
        subst hH
        simp -dsimp [h0, h6, h7, h9, hw, hd, hwq, ka', kq', haq, List.getElem_set]
        exact ⟨⟨r, by omega, D, hDs, rfl, rfl, he⟩, by omega⟩
  · rintro e ⟨sl, hp, bs⟩ ⟨rfl, rfl⟩
    simp [slices_heapSortOrdered_int.rs]
end Go.Abs.G


namespace Go.Abs.G
open Go.Proofs
attribute [local simp] I.vc sub merge place
set_option linter.unusedVariables false
set_option linter.unusedSimpArgs false

theorem part_up0 {n a i j : Nat} (hs : n ≤ 1152921504606846976) (ha : a < n) (hj : j < n) (hi : i ≤ j + 1) (d : Array Int) (hd : d.size = n) (Q : Ex → St → Prop) (sl : Sl) (bs : Nat)
    (h0 : gt sl 0 = dataV n) (h1 : gt sl 1 = vi a) (h10 : gt sl 10 = vi i) (h11 : gt sl 11 = vi j)
    (hq : ∀ s, gt s.sl 0 = dataV n → gt s.sl 1 = vi a → gt s.sl 10 = vi (Go.Sort.scanUp (fun x => Go.Sort.ltInt x d[a]!) d j i : Nat) → gt s.sl 11 = vi j → s.hp = [rowsO d] → Q (.exit 0) s) :
    WI Tryz.prog (.loop slices_partitionOrdered_int.b0) Q ⟨sl, [rowsO d], bs⟩ := by
  obtain ⟨S, hS⟩ : ∃ S, Go.Sort.scanUp (fun x => Go.Sort.ltInt x d[a]!) d j i = S := ⟨_, rfl⟩
  rw [hS] at hq
  refine WI.loop 1 (by simp) (fun s => ∃ k : Nat, k ≤ j + 1 ∧ gt s.sl 0 = dataV n ∧ gt s.sl 1 = vi a ∧ gt s.sl 10 = vi k ∧ gt s.sl 11 = vi j ∧ s.hp = [rowsO d] ∧ S = Go.Sort.scanUp (fun x => Go.Sort.ltInt x d[a]!) d j k) (fun s => (j + 1 - (gt s.sl 10).num).toNat) ?_ ?_
  · exact ⟨i, hi, h0, h1, h10, h11, rfl, hS.symm⟩
  · clear h0 h1 h10 h11
    rintro ⟨sl, hp, bs⟩ ⟨k, hk, h0, h1, h10, h11, rfl, he⟩
    rw [Go.Sort.scanUp] at he
    by_cases hkj : k ≤ j
    · have kk : k < d.size := by omega
      have ka : a < d.size := by omega
      have kk' : k < n := by omega
      have hkj' : (k : Int) ≤ j := by omega
      have hw : IntKind.i64.wrap ((k : Int) + 1) = ((k + 1 : Nat) : Int) := by rw [wrap64] <;> omega
      rw [get_bang d kk, get_bang d ka] at he
      simp -dsimp [↓call_f, slices_partitionOrdered_int.b0, h0, h1, h10, h11, hkj, hkj', kk', ha, hd]
      refine (less_spec d[k] d[a]).use ?_
      by_cases hlt : Go.Sort.ltInt d[k] d[a] = true
      · simp only [hlt] at he
        rw [if_pos (by simp; omega)] at he
        simp -dsimp [hlt, h0, h1, h10, h11, hw]
        exact ⟨⟨k + 1, by omega, by omega, he⟩, by omega⟩
      · have hlt : Go.Sort.ltInt d[k] d[a] = false := by simpa using hlt
        simp only [hlt] at he
        rw [if_neg (by simp)] at he
        simp -dsimp [hlt, h0, h1, h10, h11]
        exact hq _ (by simp) (by simp) (by simp [he]) (by simp) (by simp)
    · have hkj' : ¬ (k : Int) ≤ j := by omega
      rw [if_neg (by simp; omega)] at he
      simp -dsimp [slices_partitionOrdered_int.b0, h0, h1, h10, h11, hkj, hkj']
      exact hq _ (by simp) (by simp) (by simp [he]) (by simp) (by simp)

theorem part_up3 {n a i j : Nat} (hs : n ≤ 1152921504606846976) (ha : a < n) (hj : j < n) (hi : i ≤ j + 1) (d : Array Int) (hd : d.size = n) (Q : Ex → St → Prop) (sl : Sl) (bs : Nat)
    (h0 : gt sl 0 = dataV n) (h1 : gt sl 1 = vi a) (h10 : gt sl 10 = vi i) (h11 : gt sl 11 = vi j)
    (hq : ∀ s, gt s.sl 0 = dataV n → gt s.sl 1 = vi a → gt s.sl 10 = vi (Go.Sort.scanUp (fun x => Go.Sort.ltInt x d[a]!) d j i : Nat) → gt s.sl 11 = vi j → s.hp = [rowsO d] → Q (.exit 6) s) :
    WI Tryz.prog (.loop slices_partitionOrdered_int.b3) Q ⟨sl, [rowsO d], bs⟩ := by
  obtain ⟨S, hS⟩ : ∃ S, Go.Sort.scanUp (fun x => Go.Sort.ltInt x d[a]!) d j i = S := ⟨_, rfl⟩
  rw [hS] at hq
  refine WI.loop 1 (by simp) (fun s => ∃ k : Nat, k ≤ j + 1 ∧ gt s.sl 0 = dataV n ∧ gt s.sl 1 = vi a ∧ gt s.sl 10 = vi k ∧ gt s.sl 11 = vi j ∧ s.hp = [rowsO d] ∧ S = Go.Sort.scanUp (fun x => Go.Sort.ltInt x d[a]!) d j k) (fun s => (j + 1 - (gt s.sl 10).num).toNat) ?_ ?_
  · exact ⟨i, hi, h0, h1, h10, h11, rfl, hS.symm⟩
  · clear h0 h1 h10 h11
    rintro ⟨sl, hp, bs⟩ ⟨k, hk, h0, h1, h10, h11, rfl, he⟩
    rw [Go.Sort.scanUp] at he
    by_cases hkj : k ≤ j
    · have kk : k < d.size := by omega
      have ka : a < d.size := by omega
      have kk' : k < n := by omega
      have hkj' : (k : Int) ≤ j := by omega
      have hw : IntKind.i64.wrap ((k : Int) + 1) = ((k + 1 : Nat) : Int) := by rw [wrap64] <;> omega
      rw [get_bang d kk, get_bang d ka] at he
      simp -dsimp [↓call_f, slices_partitionOrdered_int.b3, h0, h1, h10, h11, hkj, hkj', kk', ha, hd]
      refine (less_spec d[k] d[a]).use ?_
      by_cases hlt : Go.Sort.ltInt d[k] d[a] = true
      · simp only [hlt] at he
        rw [if_pos (by simp; omega)] at he
        simp -dsimp [hlt, h0, h1, h10, h11, hw]
        exact ⟨⟨k + 1, by omega, by omega, he⟩, by omega⟩
      · have hlt : Go.Sort.ltInt d[k] d[a] = false := by simpa using hlt
        simp only [hlt] at he
        rw [if_neg (by simp)] at he
        simp -dsimp [hlt, h0, h1, h10, h11]
        exact hq _ (by simp) (by simp) (by simp [he]) (by simp) (by simp)
    · have hkj' : ¬ (k : Int) ≤ j := by omega
      rw [if_neg (by simp; omega)] at he
      simp -dsimp [slices_partitionOrdered_int.b3, h0, h1, h10, h11, hkj, hkj']
      exact hq _ (by simp) (by simp) (by simp [he]) (by simp) (by simp)

theorem part_dn1 {n a i j : Nat} (hs : n ≤ 1152921504606846976) (ha : a < n) (hj : j < n) (hi : 1 ≤ i) (hin : i ≤ n) (d : Array Int) (hd : d.size = n) (Q : Ex → St → Prop) (sl : Sl) (bs : Nat)
    (h0 : gt sl 0 = dataV n) (h1 : gt sl 1 = vi a) (h10 : gt sl 10 = vi i) (h11 : gt sl 11 = vi j)
    (hq : ∀ s, gt s.sl 0 = dataV n → gt s.sl 1 = vi a → gt s.sl 10 = vi i → gt s.sl 11 = vi (Go.Sort.scanDown (fun x => !Go.Sort.ltInt x d[a]!) d i j : Nat) → s.hp = [rowsO d] → Q (.exit 2) s) :
    WI Tryz.prog (.loop slices_partitionOrdered_int.b1) Q ⟨sl, [rowsO d], bs⟩ := by
  obtain ⟨S, hS⟩ : ∃ S, Go.Sort.scanDown (fun x => !Go.Sort.ltInt x d[a]!) d i j = S := ⟨_, rfl⟩
  rw [hS] at hq
  refine WI.loop 1 (by simp) (fun s => ∃ k : Nat, k ≤ j ∧ gt s.sl 0 = dataV n ∧ gt s.sl 1 = vi a ∧ gt s.sl 10 = vi i ∧ gt s.sl 11 = vi k ∧ s.hp = [rowsO d] ∧ S = Go.Sort.scanDown (fun x => !Go.Sort.ltInt x d[a]!) d i k) (fun s => (gt s.sl 11).num.toNat) ?_ ?_
  · exact ⟨j, Nat.le_refl _, h0, h1, h10, h11, rfl, hS.symm⟩
  · clear h0 h1 h10 h11
    rintro ⟨sl, hp, bs⟩ ⟨k, hk, h0, h1, h10, h11, rfl, he⟩
    by_cases hkj : i ≤ k
    · obtain ⟨m, rfl⟩ : ∃ m, k = m + 1 := ⟨k - 1, by omega⟩
      rw [Go.Sort.scanDown] at he
      obtain ⟨q, hq'⟩ : ∃ q, m + 1 = q := ⟨_, rfl⟩
      rw [hq'] at he h11 hkj
      have kk : q < d.size := by omega
      have ka : a < d.size := by omega
      have kk' : q < n := by omega
      have hkj' : (i : Int) ≤ q := by omega
      have hw : IntKind.i64.wrap ((q : Int) - 1) = (m : Int) := by rw [wrap64] <;> omega
      rw [get_bang d kk, get_bang d ka] at he
      simp -dsimp [↓call_f, slices_partitionOrdered_int.b1, h0, h1, h10, h11, hkj, hkj', kk', ha, hd]
      refine (less_spec d[q] d[a]).use ?_
      by_cases hlt : Go.Sort.ltInt d[q] d[a] = true
      · simp only [hlt] at he
        rw [if_neg (by simp)] at he
        simp -dsimp [hlt, h0, h1, h10, h11]
        exact hq _ (by simp) (by simp) (by simp) (by simp [he]) (by simp)
      · have hlt : Go.Sort.ltInt d[q] d[a] = false := by simpa using hlt
        simp only [hlt] at he
        rw [if_pos (by simp; omega)] at he
        simp -dsimp [hlt, h0, h1, h10, h11, hw]
        exact ⟨⟨m, by omega, rfl, he⟩, by omega⟩
    · have hkj' : ¬ (i : Int) ≤ k := by omega
      have he : S = k := by
        rw [he]
        cases k with
        | zero => rfl
        | succ m => rw [Go.Sort.scanDown, if_neg (by simp; omega)]
      simp -dsimp [slices_partitionOrdered_int.b1, h0, h1, h10, h11, hkj, hkj']
      exact hq _ (by simp) (by simp) (by simp) (by simp [he]) (by simp)

theorem part_dn4 {n a i j : Nat} (hs : n ≤ 1152921504606846976) (ha : a < n) (hj : j < n) (hi : 1 ≤ i) (hin : i ≤ n) (d : Array Int) (hd : d.size = n) (Q : Ex → St → Prop) (sl : Sl) (bs : Nat)
    (h0 : gt sl 0 = dataV n) (h1 : gt sl 1 = vi a) (h10 : gt sl 10 = vi i) (h11 : gt sl 11 = vi j)
    (hq : ∀ s, gt s.sl 0 = dataV n → gt s.sl 1 = vi a → gt s.sl 10 = vi i → gt s.sl 11 = vi (Go.Sort.scanDown (fun x => !Go.Sort.ltInt x d[a]!) d i j : Nat) → s.hp = [rowsO d] → Q (.exit 8) s) :
    WI Tryz.prog (.loop slices_partitionOrdered_int.b4) Q ⟨sl, [rowsO d], bs⟩ := by
  obtain ⟨S, hS⟩ : ∃ S, Go.Sort.scanDown (fun x => !Go.Sort.ltInt x d[a]!) d i j = S := ⟨_, rfl⟩
  rw [hS] at hq
  refine WI.loop 1 (by simp) (fun s => ∃ k : Nat, k ≤ j ∧ gt s.sl 0 = dataV n ∧ gt s.sl 1 = vi a ∧ gt s.sl 10 = vi i ∧ gt s.sl 11 = vi k ∧ s.hp = [rowsO d] ∧ S = Go.Sort.scanDown (fun x => !Go.Sort.ltInt x d[a]!) d i k) (fun s => (gt s.sl 11).num.toNat) ?_ ?_
  · exact ⟨j, Nat.le_refl _, h0, h1, h10, h11, rfl, hS.symm⟩
  · clear h0 h1 h10 h11
    rintro ⟨sl, hp, bs⟩ ⟨k, hk, h0, h1, h10, h11, rfl, he⟩
    by_cases hkj : i ≤ k
    · obtain ⟨m, rfl⟩ : ∃ m, k = m + 1 := ⟨k - 1, by omega⟩
      rw [Go.Sort.scanDown] at he
      obtain ⟨q, hq'⟩ : ∃ q, m + 1 = q := ⟨_, rfl⟩
      rw [hq'] at he h11 hkj
      have kk : q < d.size := by omega
      have ka : a < d.size := by omega
      have kk' : q < n := by omega
      have hkj' : (i : Int) ≤ q := by omega
      have hw : IntKind.i64.wrap ((q : Int) - 1) = (m : Int) := by rw [wrap64] <;> omega
      rw [get_bang d kk, get_bang d ka] at he
      simp -dsimp [↓call_f, slices_partitionOrdered_int.b4, h0, h1, h10, h11, hkj, hkj', kk', ha, hd]
      refine (less_spec d[q] d[a]).use ?_
      by_cases hlt : Go.Sort.ltInt d[q] d[a] = true
      · simp only [hlt] at he
        rw [if_neg (by simp)] at he
        simp -dsimp [hlt, h0, h1, h10, h11]
        exact hq _ (by simp) (by simp) (by simp) (by simp [he]) (by simp)
      · have hlt : Go.Sort.ltInt d[q] d[a] = false := by simpa using hlt
        simp only [hlt] at he
        rw [if_pos (by simp; omega)] at he
        simp -dsimp [hlt, h0, h1, h10, h11, hw]
        exact ⟨⟨m, by omega, rfl, he⟩, by omega⟩
    · have hkj' : ¬ (i : Int) ≤ k := by omega
      have he : S = k := by
        rw [he]
        cases k with
        | zero => rfl
        | succ m => rw [Go.Sort.scanDown, if_neg (by simp; omega)]
      simp -dsimp [slices_partitionOrdered_int.b4, h0, h1, h10, h11, hkj, hkj']
      exact hq _ (by simp) (by simp) (by simp) (by simp [he]) (by simp)

theorem peq_up {n a i j : Nat} (hs : n ≤ 1152921504606846976) (ha : a < n) (hj : j < n) (hi : i ≤ j + 1) (d : Array Int) (hd : d.size = n) (Q : Ex → St → Prop) (sl : Sl) (bs : Nat)
    (h0 : gt sl 0 = dataV n) (h1 : gt sl 1 = vi a) (h10 : gt sl 9 = vi i) (h11 : gt sl 10 = vi j)
    (hq : ∀ s, gt s.sl 0 = dataV n → gt s.sl 1 = vi a → gt s.sl 9 = vi (Go.Sort.scanUp (fun x => !Go.Sort.ltInt d[a]! x) d j i : Nat) → gt s.sl 10 = vi j → s.hp = [rowsO d] → Q (.exit 2) s) :
    WI Tryz.prog (.loop slices_partitionEqualOrdered_int.b1) Q ⟨sl, [rowsO d], bs⟩ := by
  obtain ⟨S, hS⟩ : ∃ S, Go.Sort.scanUp (fun x => !Go.Sort.ltInt d[a]! x) d j i = S := ⟨_, rfl⟩
  rw [hS] at hq
  refine WI.loop 1 (by simp) (fun s => ∃ k : Nat, k ≤ j + 1 ∧ gt s.sl 0 = dataV n ∧ gt s.sl 1 = vi a ∧ gt s.sl 9 = vi k ∧ gt s.sl 10 = vi j ∧ s.hp = [rowsO d] ∧ S = Go.Sort.scanUp (fun x => !Go.Sort.ltInt d[a]! x) d j k) (fun s => (j + 1 - (gt s.sl 9).num).toNat) ?_ ?_
  · exact ⟨i, hi, h0, h1, h10, h11, rfl, hS.symm⟩
  · clear h0 h1 h10 h11
    rintro ⟨sl, hp, bs⟩ ⟨k, hk, h0, h1, h10, h11, rfl, he⟩
    rw [Go.Sort.scanUp] at he
    by_cases hkj : k ≤ j
    · have kk : k < d.size := by omega
      have ka : a < d.size := by omega
      have kk' : k < n := by omega
      have hkj' : (k : Int) ≤ j := by omega
      have hw : IntKind.i64.wrap ((k : Int) + 1) = ((k + 1 : Nat) : Int) := by rw [wrap64] <;> omega
      rw [get_bang d kk, get_bang d ka] at he
      simp -dsimp [↓call_f, slices_partitionEqualOrdered_int.b1, h0, h1, h10, h11, hkj, hkj', kk', ha, hd]
      refine (less_spec d[a] d[k]).use ?_
      by_cases hlt : Go.Sort.ltInt d[a] d[k] = true
      · simp only [hlt] at he
        rw [if_neg (by simp)] at he
        simp -dsimp [hlt, h0, h1, h10, h11]
        exact hq _ (by simp) (by simp) (by simp [he]) (by simp) (by simp)
      · have hlt : Go.Sort.ltInt d[a] d[k] = false := by simpa using hlt
        simp only [hlt] at he
        rw [if_pos (by simp; omega)] at he
        simp -dsimp [hlt, h0, h1, h10, h11, hw]
        exact ⟨⟨k + 1, by omega, by omega, he⟩, by omega⟩
    · have hkj' : ¬ (k : Int) ≤ j := by omega
      rw [if_neg (by simp; omega)] at he
      simp -dsimp [slices_partitionEqualOrdered_int.b1, h0, h1, h10, h11, hkj, hkj']
      exact hq _ (by simp) (by simp) (by simp [he]) (by simp) (by simp)

theorem peq_dn {n a i j : Nat} (hs : n ≤ 1152921504606846976) (ha : a < n) (hj : j < n) (hi : 1 ≤ i) (hin : i ≤ n) (d : Array Int) (hd : d.size = n) (Q : Ex → St → Prop) (sl : Sl) (bs : Nat)
    (h0 : gt sl 0 = dataV n) (h1 : gt sl 1 = vi a) (h10 : gt sl 9 = vi i) (h11 : gt sl 10 = vi j)
    (hq : ∀ s, gt s.sl 0 = dataV n → gt s.sl 1 = vi a → gt s.sl 9 = vi i → gt s.sl 10 = vi (Go.Sort.scanDown (fun x => Go.Sort.ltInt d[a]! x) d i j : Nat) → s.hp = [rowsO d] → Q (.exit 4) s) :
    WI Tryz.prog (.loop slices_partitionEqualOrdered_int.b2) Q ⟨sl, [rowsO d], bs⟩ := by
  obtain ⟨S, hS⟩ : ∃ S, Go.Sort.scanDown (fun x => Go.Sort.ltInt d[a]! x) d i j = S := ⟨_, rfl⟩
  rw [hS] at hq
  refine WI.loop 1 (by simp) (fun s => ∃ k : Nat, k ≤ j ∧ gt s.sl 0 = dataV n ∧ gt s.sl 1 = vi a ∧ gt s.sl 9 = vi i ∧ gt s.sl 10 = vi k ∧ s.hp = [rowsO d] ∧ S = Go.Sort.scanDown (fun x => Go.Sort.ltInt d[a]! x) d i k) (fun s => (gt s.sl 10).num.toNat) ?_ ?_
  · exact ⟨j, Nat.le_refl _, h0, h1, h10, h11, rfl, hS.symm⟩
  · clear h0 h1 h10 h11
    rintro ⟨sl, hp, bs⟩ ⟨k, hk, h0, h1, h10, h11, rfl, he⟩
    by_cases hkj : i ≤ k
    · obtain ⟨m, rfl⟩ : ∃ m, k = m + 1 := ⟨k - 1, by omega⟩
      rw [Go.Sort.scanDown] at he
      obtain ⟨q, hq'⟩ : ∃ q, m + 1 = q := ⟨_, rfl⟩
      rw [hq'] at he h11 hkj
      have kk : q < d.size := by omega
      have ka : a < d.size := by omega
      have kk' : q < n := by omega
      have hkj' : (i : Int) ≤ q := by omega
      have hw : IntKind.i64.wrap ((q : Int) - 1) = (m : Int) := by rw [wrap64] <;> omega
      rw [get_bang d kk, get_bang d ka] at he
      simp -dsimp [↓call_f, slices_partitionEqualOrdered_int.b2, h0, h1, h10, h11, hkj, hkj', kk', ha, hd]
      refine (less_spec d[a] d[q]).use ?_
      by_cases hlt : Go.Sort.ltInt d[a] d[q] = true
      · simp only [hlt] at he
        rw [if_pos (by simp; omega)] at he
        simp -dsimp [hlt, h0, h1, h10, h11, hw]
        exact ⟨⟨m, by omega, rfl, he⟩, by omega⟩
      · have hlt : Go.Sort.ltInt d[a] d[q] = false := by simpa using hlt
        simp only [hlt] at he
        rw [if_neg (by simp)] at he
        simp -dsimp [hlt, h0, h1, h10, h11]
        exact hq _ (by simp) (by simp) (by simp) (by simp [he]) (by simp)
    · have hkj' : ¬ (i : Int) ≤ k := by omega
      have he : S = k := by
        rw [he]
        cases k with
        | zero => rfl
        | succ m => rw [Go.Sort.scanDown, if_neg (by simp; omega)]
      simp -dsimp [slices_partitionEqualOrdered_int.b2, h0, h1, h10, h11, hkj, hkj']
      exact hq _ (by simp) (by simp) (by simp) (by simp [he]) (by simp)

end Go.Abs.G


namespace Go.Abs.G
open Go.Proofs
attribute [local simp] I.vc sub merge place
set_option linter.unusedVariables false
set_option linter.unusedSimpArgs false

theorem scanUp_bound (p : Int → Bool) (d : Array Int) (j : Nat) : ∀ (k i : Nat), j + 1 - i ≤ k → i ≤ Go.Sort.scanUp p d j i ∧ (i ≤ j + 1 → Go.Sort.scanUp p d j i ≤ j + 1) := by
  intro k
  induction k with
  | zero =>
    intro i h
    rw [Go.Sort.scanUp, if_neg (by simp; omega)]
    exact ⟨Nat.le_refl _, fun h => h⟩
  | succ k ih =>
    intro i h
    rw [Go.Sort.scanUp]
    split
    · next hc =>
      simp at hc
      have := ih (i + 1) (by omega)
      exact ⟨by omega, fun _ => this.2 (by omega)⟩
    · exact ⟨Nat.le_refl _, fun h => h⟩

theorem scanDown_bound (p : Int → Bool) (d : Array Int) (i : Nat) : ∀ (j : Nat), Go.Sort.scanDown p d i j ≤ j ∧ (1 ≤ i → i ≤ j + 1 → i ≤ Go.Sort.scanDown p d i j + 1) := by
  intro j
  induction j with
  | zero => exact ⟨Nat.le_refl _, fun _ h => h⟩
  | succ j ih =>
    rw [Go.Sort.scanDown]
    split
    · next hc =>
      simp at hc
      exact ⟨by omega, fun h1 h2 => ih.2 h1 (by omega)⟩
    · exact ⟨Nat.le_refl _, fun _ h => h⟩

theorem scanUp_stop (p : Int → Bool) (d : Array Int) (j : Nat) : ∀ (k i : Nat), j + 1 - i ≤ k → Go.Sort.scanUp p d j i ≤ j → p d[Go.Sort.scanUp p d j i]! = false := by
  intro k
  induction k with
  | zero =>
    intro i h h2
    rw [Go.Sort.scanUp, if_neg (by simp; omega)] at h2
    omega
  | succ k ih =>
    intro i h h2
    rw [Go.Sort.scanUp] at h2 ⊢
    split
    · next hc =>
      rw [if_pos hc] at h2
      simp at hc
      exact ih (i + 1) (by omega) h2
    · next hc =>
      rw [if_neg hc] at h2
      simp only [Bool.and_eq_true, decide_eq_true_eq, not_and] at hc
      simpa using hc h2

theorem scanDown_stop (p : Int → Bool) (d : Array Int) (i : Nat) (hi : 1 ≤ i) : ∀ (j : Nat), i ≤ Go.Sort.scanDown p d i j → p d[Go.Sort.scanDown p d i j]! = false := by
  intro j
  induction j with
  | zero => intro h; simp [Go.Sort.scanDown] at h; omega
  | succ j ih =>
    intro h
    rw [Go.Sort.scanDown] at h ⊢
    split
    · next hc => rw [if_pos hc] at h; exact ih h
    · next hc =>
      rw [if_neg hc] at h
      simp only [Bool.and_eq_true, decide_eq_true_eq, not_and] at hc
      simpa using hc h

/-- The 'for' of partition. -/
theorem part_loop {n a i j : Nat} (hs : n ≤ 1152921504606846976) (ha : a < n) (hi : 1 ≤ i) (hj : j < n) (hij : i ≤ j + 1) (d : Array Int) (hd : d.size = n) (Q : Ex → St → Prop) (sl : Sl) (bs : Nat)
    (h0 : gt sl 0 = dataV n) (h1 : gt sl 1 = vi a) (h10 : gt sl 10 = vi i) (h11 : gt sl 11 = vi j)
    (hq : ∀ s, gt s.sl 0 = dataV n → gt s.sl 1 = vi a → gt s.sl 11 = vi (Go.Sort.partLoop Go.Sort.ltInt a i j d).1 → s.hp = [rowsO (Go.Sort.partLoop Go.Sort.ltInt a i j d).2] → Q (.exit 4) s) :
    WI Tryz.prog (.loop slices_partitionOrdered_int.b2) Q ⟨sl, [rowsO d], bs⟩ := by
  obtain ⟨S, hS⟩ : ∃ S, Go.Sort.partLoop Go.Sort.ltInt a i j d = S := ⟨_, rfl⟩
  rw [hS] at hq
  refine WI.loop 1 (by simp) (fun s => ∃ (x y : Nat) (d' : Array Int), 1 ≤ x ∧ y < n ∧ x ≤ y + 1 ∧ d'.size = n ∧ gt s.sl 0 = dataV n ∧ gt s.sl 1 = vi a ∧ gt s.sl 10 = vi x ∧ gt s.sl 11 = vi y ∧ s.hp = [rowsO d'] ∧ S = Go.Sort.partLoop Go.Sort.ltInt a x y d') (fun s => ((gt s.sl 11).num + 1 - (gt s.sl 10).num).toNat) ?_ ?_
  · exact ⟨i, j, d, hi, hj, hij, hd, h0, h1, h10, h11, rfl, hS.symm⟩
  · clear h0 h1 h10 h11
    rintro ⟨sl, hp, bs⟩ ⟨x, y, d', hx, hy, hxy, hd', h0, h1, h10, h11, rfl, he⟩
    have g10 := h10
    have g11 := h11
    rw [Go.Sort.partLoop] at he
    have bu := scanUp_bound (fun z => Go.Sort.ltInt z d'[a]!) d' y (y + 1 - x) x (Nat.le_refl _)
    unfold slices_partitionOrdered_int.b2
    refine vc_block_of ?_
    obtain ⟨i2, hi2⟩ : ∃ k, Go.Sort.scanUp (fun z => Go.Sort.ltInt z d'[a]!) d' y x = k := ⟨_, rfl⟩
    rw [hi2] at he bu
    have bd := scanDown_bound (fun z => !Go.Sort.ltInt z d'[a]!) d' i2 y
    obtain ⟨j2, hj2⟩ : ∃ k, Go.Sort.scanDown (fun z => !Go.Sort.ltInt z d'[a]!) d' i2 y = k := ⟨_, rfl⟩
    rw [hj2] at he bd
    have b1 := bu.2 hxy
    have b2 := bd.2 (by omega) b1
    refine vc_cut (fun s => gt s.sl 0 = dataV n ∧ gt s.sl 1 = vi a ∧ gt s.sl 10 = vi i2 ∧ gt s.sl 11 = vi y ∧ s.hp = [rowsO d']) (vc_block_of (part_up3 (i := x) (j := y) hs ha hy hxy d' hd' _ _ _ h0 h1 h10 h11 fun s q0 q1 q10 q11 qh => ?_)) ?_
    · rw [hi2] at q10
      exact ⟨q0, q1, q10, q11, qh⟩
    clear h0 h1 h10 h11
    rintro ⟨sl, hp, bs⟩ ⟨h0, h1, h10, h11, rfl⟩
    refine vc_cut (fun s => gt s.sl 0 = dataV n ∧ gt s.sl 1 = vi a ∧ gt s.sl 10 = vi i2 ∧ gt s.sl 11 = vi j2 ∧ s.hp = [rowsO d']) (vc_block_of (part_dn4 (i := i2) (j := y) hs ha hy (by omega) (by omega) d' hd' _ _ _ h0 h1 h10 h11 fun s q0 q1 q10 q11 qh => ?_)) ?_
    · rw [hj2] at q11
      exact ⟨q0, q1, q10, q11, qh⟩
    clear h0 h1 h10 h11
    rintro ⟨sl, hp, bs⟩ ⟨h0, h1, h10, h11, rfl⟩
    by_cases hgt : i2 > j2
    · rw [if_pos hgt] at he
      have hgt' : (j2 : Int) < i2 := by omega
      simp -dsimp [h0, h1, h10, h11, hgt']
      exact hq _ (by simp) (by simp) (by simp [he]) (by simp [he])
    · rw [if_neg hgt, dif_pos (by omega)] at he
      have hgt' : ¬ (j2 : Int) < i2 := by omega
      have k1 : i2 < d'.size := by omega
      have k2 : j2 < d'.size := by omega
      have k1' : i2 < n := by omega
      have k2' : j2 < n := by omega
      have hsw := swp_rows d' k1 k2
      have hwi : IntKind.i64.wrap ((i2 : Int) + 1) = ((i2 + 1 : Nat) : Int) := by rw [wrap64] <;> omega
      have hwj : IntKind.i64.wrap ((j2 : Int) - 1) = ((j2 - 1 : Nat) : Int) := by rw [wrap64] <;> omega
      have heq : ¬ i2 = j2 := by
        intro heq
        have t1 := scanUp_stop (fun z => Go.Sort.ltInt z d'[a]!) d' y (y + 1 - x) x (Nat.le_refl _) (by rw [hi2]; omega)
        have t2 := scanDown_stop (fun z => !Go.Sort.ltInt z d'[a]!) d' i2 (by omega) y (by rw [hj2]; omega)
        rw [hi2] at t1
        rw [hj2, ← heq] at t2
        rw [t1] at t2
        cases t2
      simp -dsimp [h0, h1, h10, h11, hgt', hd', k1', k2', heq, hwi, hwj, List.getElem_set, g10, g11]
      exact ⟨⟨i2 + 1, by omega, j2 - 1, by omega, by omega, Go.Sort.swp d' i2 j2, by rw [swp_size]; exact hd', by omega, rfl, hsw, he⟩, by omega⟩

theorem partLoop_bound (a : Nat) : ∀ (k i j : Nat) (d : Array Int), j + 1 - i ≤ k → (Go.Sort.partLoop Go.Sort.ltInt a i j d).2.size = d.size ∧ (Go.Sort.partLoop Go.Sort.ltInt a i j d).1 ≤ j := by
  intro k
  induction k with
  | zero =>
    intro i j d h
    rw [Go.Sort.partLoop]
    have bu := scanUp_bound (fun z => Go.Sort.ltInt z d[a]!) d j (j + 1 - i) i (Nat.le_refl _)
    have bd := scanDown_bound (fun z => !Go.Sort.ltInt z d[a]!) d (Go.Sort.scanUp (fun z => Go.Sort.ltInt z d[a]!) d j i) j
    split
    · exact ⟨rfl, bd.1⟩
    · split
      · omega
      · exact ⟨rfl, bd.1⟩
  | succ k ih =>
    intro i j d h
    rw [Go.Sort.partLoop]
    have bd := scanDown_bound (fun z => !Go.Sort.ltInt z d[a]!) d (Go.Sort.scanUp (fun z => Go.Sort.ltInt z d[a]!) d j i) j
    split
    · exact ⟨rfl, bd.1⟩
    · split
      · next hlt =>
        have := ih (Go.Sort.scanUp (fun z => Go.Sort.ltInt z d[a]!) d j i + 1) (Go.Sort.scanDown (fun z => !Go.Sort.ltInt z d[a]!) d (Go.Sort.scanUp (fun z => Go.Sort.ltInt z d[a]!) d j i) j - 1) (Go.Sort.swp d (Go.Sort.scanUp (fun z => Go.Sort.ltInt z d[a]!) d j i) (Go.Sort.scanDown (fun z => !Go.Sort.ltInt z d[a]!) d (Go.Sort.scanUp (fun z => Go.Sort.ltInt z d[a]!) d j i) j)) (by omega)
        exact ⟨by rw [this.1, swp_size], by omega⟩
      · exact ⟨rfl, bd.1⟩
end Go.Abs.G


namespace Go.Abs.G
open Go.Proofs
attribute [local simp] I.vc sub merge place
set_option linter.unusedVariables false
set_option linter.unusedSimpArgs false

set_option maxHeartbeats 1000000 in
theorem partition_spec (d : Array Int) (a b pivot : Nat) (hap : a ≤ pivot) (hpb : pivot < b) (hab : a + 2 < b) (hb : b ≤ d.size) (hs : d.size ≤ 1152921504606846976) :
    DC Tryz.prog slices_partitionOrdered_int.id [dataV d.size, vi a, vi b, vi pivot] [rowsO d] (fun r H => r = .tup [vi (Go.Sort.partition Go.Sort.ltInt d a b pivot).1, .bool (Go.Sort.partition Go.Sort.ltInt d a b pivot).2.1] ∧ H = [rowsO (Go.Sort.partition Go.Sort.ltInt d a b pivot).2.2]) := by
  refine DC.of slices_partitionOrdered_int.ok (by simp) ?_
  obtain ⟨R, hR⟩ : ∃ R, Go.Sort.partition Go.Sort.ltInt d a b pivot = R := ⟨_, rfl⟩
  rw [hR]
  unfold Go.Sort.partition at hR
  obtain ⟨n, hn⟩ : ∃ n, d.size = n := ⟨_, rfl⟩
  obtain ⟨d1, hd1⟩ : ∃ x, Go.Sort.swp d a pivot = x := ⟨_, rfl⟩
  have z1 : d1.size = n := by rw [← hd1, swp_size, hn]
  simp only [hd1] at hR
  obtain ⟨i, hi⟩ : ∃ x, Go.Sort.scanUp (fun x => Go.Sort.ltInt x d1[a]!) d1 (b - 1) (a + 1) = x := ⟨_, rfl⟩
  have bu := scanUp_bound (fun x => Go.Sort.ltInt x d1[a]!) d1 (b - 1) (b - 1 + 1 - (a + 1)) (a + 1) (Nat.le_refl _)
  have tu := scanUp_stop (fun x => Go.Sort.ltInt x d1[a]!) d1 (b - 1) (b - 1 + 1 - (a + 1)) (a + 1) (Nat.le_refl _)
  rw [hi] at hR bu tu
  obtain ⟨j, hj⟩ : ∃ x, Go.Sort.scanDown (fun x => !Go.Sort.ltInt x d1[a]!) d1 i (b - 1) = x := ⟨_, rfl⟩
  have bd := scanDown_bound (fun x => !Go.Sort.ltInt x d1[a]!) d1 i (b - 1)
  have td := scanDown_stop (fun x => !Go.Sort.ltInt x d1[a]!) d1 i (by omega) (b - 1)
  rw [hj] at hR bd td
  have b1 := bu.2 (by omega)
  have b2 := bd.2 (by omega) b1
  rw [hn]
  have hsn : n ≤ 1152921504606846976 := by omega
  have w1 : IntKind.i64.wrap ((a : Int) + 1) = ((a + 1 : Nat) : Int) := by rw [wrap64] <;> omega
  have w2 : IntKind.i64.wrap ((b : Int) - 1) = ((b - 1 : Nat) : Int) := by rw [wrap64] <;> omega
  have ka : a < d.size := by omega
  have kp : pivot < d.size := by omega
  have ka' : a < n := by omega
  have kp' : pivot < n := by omega
  unfold slices_partitionOrdered_int.ir
  refine vc_cut (fun s => gt s.sl 0 = dataV n ∧ gt s.sl 1 = vi a ∧ gt s.sl 2 = vi b ∧ gt s.sl 3 = vi pivot ∧ s.hp = [rowsO d]) (by simp -dsimp) ?_
  rintro ⟨sl, hp, bs⟩ ⟨h0, h1, h2, h3, rfl⟩
  refine vc_cut (fun s => gt s.sl 0 = dataV n ∧ gt s.sl 1 = vi a ∧ gt s.sl 2 = vi b ∧ s.hp = [rowsO d1]) ?_ ?_
  · have hsw := swp_rows d ka kp
    rw [hd1] at hsw
    by_cases heq : a = pivot
    · clear hR hd1
      subst heq
      simp only [List.set_set] at hsw
      simp -dsimp [h0, h1, h2, h3, hn, ka', kp', List.getElem_set]
      exact hsw
    · simp -dsimp [h0, h1, h2, h3, hn, ka', kp', heq, List.getElem_set, hsw]
  clear h0 h1 h2 h3
  rintro ⟨sl, hp, bs⟩ ⟨h0, h1, h2, rfl⟩
  refine vc_cut (fun s => gt s.sl 0 = dataV n ∧ gt s.sl 1 = vi a ∧ gt s.sl 10 = vi (a + 1 : Nat) ∧ gt s.sl 11 = vi (b - 1 : Nat) ∧ s.hp = [rowsO d1]) (by simp -dsimp [h0, h1, h2, w1, w2]) ?_
  clear h0 h1 h2
  rintro ⟨sl, hp, bs⟩ ⟨h0, h1, h10, h11, rfl⟩
  refine vc_cut (fun s => gt s.sl 0 = dataV n ∧ gt s.sl 1 = vi a ∧ gt s.sl 10 = vi i ∧ gt s.sl 11 = vi (b - 1 : Nat) ∧ s.hp = [rowsO d1]) (vc_block_of (part_up0 (i := a + 1) (j := b - 1) hsn ka' (by omega) (by omega) d1 z1 _ _ _ h0 h1 h10 h11 fun s q0 q1 q10 q11 qh => ?_)) ?_
  · rw [hi] at q10
    exact ⟨q0, q1, q10, q11, qh⟩
  clear h0 h1 h10 h11
  rintro ⟨sl, hp, bs⟩ ⟨h0, h1, h10, h11, rfl⟩
  refine vc_cut (fun s => gt s.sl 0 = dataV n ∧ gt s.sl 1 = vi a ∧ gt s.sl 10 = vi i ∧ gt s.sl 11 = vi j ∧ s.hp = [rowsO d1]) (vc_block_of (part_dn1 (i := i) (j := b - 1) hsn ka' (by omega) (by omega) (by omega) d1 z1 _ _ _ h0 h1 h10 h11 fun s q0 q1 q10 q11 qh => ?_)) ?_
  · rw [hj] at q11
    exact ⟨q0, q1, q10, q11, qh⟩
  clear h0 h1 h10 h11
  rintro ⟨sl, hp, bs⟩ ⟨h0, h1, h10, h11, rfl⟩
  have kj : j < d1.size := by omega
  have ka1 : a < d1.size := by omega
  have kj' : j < n := by omega
  by_cases hgt : i > j
  · rw [if_pos hgt] at hR
    have hgt' : (j : Int) < i := by omega
    have hsw := swp_rows d1 kj ka1
    by_cases heq : j = a
    · have hsw2 : ((d1.toList.map fun n => [V.a (.int .i64 n)]).set a [V.a (.int .i64 d1[a])]) = (Go.Sort.swp d1 j a).toList.map fun n => [V.a (.int .i64 n)] := by
        subst heq
        simpa only [List.set_set] using hsw
      obtain ⟨D, hD⟩ : ∃ D, Go.Sort.swp d1 j a = D := ⟨_, rfl⟩
      rw [hD] at hR hsw2
      clear hsw hD
      subst heq
      simp -dsimp [h0, h1, h10, h11, hgt', z1, ka', kj', List.getElem_set, ← hR, slices_partitionOrdered_int.rs]
      exact hsw2
    · simp -dsimp [h0, h1, h10, h11, hgt', z1, ka', kj', heq, List.getElem_set, hsw, ← hR, slices_partitionOrdered_int.rs]
  rw [if_neg hgt] at hR
  have hgt' : ¬ (j : Int) < i := by omega
  have hij : ¬ i = j := by
    intro heq
    have t1 := tu (by omega)
    have t2 := td (by omega)
    rw [← heq, t1] at t2
    cases t2
  have hlt : i < j := by omega
  have j1 : j - 1 + 1 = j := by omega
  obtain ⟨d2, hd2⟩ : ∃ x, Go.Sort.swp d1 i j = x := ⟨_, rfl⟩
  have z2 : d2.size = n := by rw [← hd2, swp_size, z1]
  have ki : i < d1.size := by omega
  have ki' : i < n := by omega
  have hsw := swp_rows d1 ki kj
  rw [hd2] at hsw
  rw [hd2] at hR
  have pb := partLoop_bound a (j - 1 + 1 - (i + 1)) (i + 1) (j - 1) d2 (Nat.le_refl _)
  obtain ⟨P, hP⟩ : ∃ x, Go.Sort.partLoop Go.Sort.ltInt a (i + 1) (j - 1) d2 = x := ⟨_, rfl⟩
  rw [hP] at hR pb
  obtain ⟨m, d3⟩ := P
  simp only at hR pb
  have w3 : IntKind.i64.wrap ((i : Int) + 1) = ((i + 1 : Nat) : Int) := by rw [wrap64] <;> omega
  have w4 : IntKind.i64.wrap ((j : Int) - 1) = ((j - 1 : Nat) : Int) := by rw [wrap64] <;> omega
  refine vc_cut (fun s => gt s.sl 0 = dataV n ∧ gt s.sl 1 = vi a ∧ gt s.sl 10 = vi i ∧ gt s.sl 11 = vi j ∧ s.hp = [rowsO d1]) (by simp -dsimp [h0, h1, h10, h11, hgt']) ?_
  clear h0 h1 h10 h11
  rintro ⟨sl, hp, bs⟩ ⟨h0, h1, h10, h11, rfl⟩
  refine vc_cut (fun s => gt s.sl 0 = dataV n ∧ gt s.sl 1 = vi a ∧ gt s.sl 10 = vi i ∧ gt s.sl 11 = vi j ∧ s.hp = [rowsO d2]) (by simp -dsimp [h0, h1, h10, h11, z1, ki', kj', hij, List.getElem_set, hsw]) ?_
  clear h0 h1 h10 h11
  rintro ⟨sl, hp, bs⟩ ⟨h0, h1, h10, h11, rfl⟩
  refine vc_cut (fun s => gt s.sl 0 = dataV n ∧ gt s.sl 1 = vi a ∧ gt s.sl 10 = vi (i + 1 : Nat) ∧ gt s.sl 11 = vi j ∧ s.hp = [rowsO d2]) (by simp -dsimp [h0, h1, h10, h11, w3]) ?_
  clear h0 h1 h10 h11
  rintro ⟨sl, hp, bs⟩ ⟨h0, h1, h10, h11, rfl⟩
  refine vc_cut (fun s => gt s.sl 0 = dataV n ∧ gt s.sl 1 = vi a ∧ gt s.sl 10 = vi (i + 1 : Nat) ∧ gt s.sl 11 = vi (j - 1 : Nat) ∧ s.hp = [rowsO d2]) (by simp -dsimp [h0, h1, h10, h11, w4]) ?_
  clear h0 h1 h10 h11
  rintro ⟨sl, hp, bs⟩ ⟨h0, h1, h10, h11, rfl⟩
  refine vc_cut (fun s => gt s.sl 0 = dataV n ∧ gt s.sl 1 = vi a ∧ gt s.sl 11 = vi m ∧ s.hp = [rowsO d3]) (vc_block_of (part_loop (i := i + 1) (j := j - 1) hsn ka' (by omega) (by omega) (by omega) d2 z2 _ _ _ h0 h1 h10 h11 fun s q0 q1 q11 qh => ?_)) ?_
  · rw [hP] at q11 qh
    exact ⟨q0, q1, q11, qh⟩
  clear h0 h1 h10 h11
  rintro ⟨sl, hp, bs⟩ ⟨h0, h1, h11, rfl⟩
  have z3 : d3.size = n := by omega
  have km : m < d3.size := by omega
  have ka3 : a < d3.size := by omega
  have km' : m < n := by omega
  have hsw3 := swp_rows d3 km ka3
  by_cases heq : m = a
  · have hsw2 : ((d3.toList.map fun n => [V.a (.int .i64 n)]).set a [V.a (.int .i64 d3[a])]) = (Go.Sort.swp d3 m a).toList.map fun n => [V.a (.int .i64 n)] := by
      subst heq
      simpa only [List.set_set] using hsw3
    obtain ⟨D, hD⟩ : ∃ D, Go.Sort.swp d3 m a = D := ⟨_, rfl⟩
    rw [hD] at hR hsw2
    clear hsw3 hD
    subst heq
    simp -dsimp [h0, h1, h11, z3, ka', km', List.getElem_set, ← hR, slices_partitionOrdered_int.rs]
    exact hsw2
  · simp -dsimp [h0, h1, h11, z3, ka', km', heq, List.getElem_set, hsw3, ← hR, slices_partitionOrdered_int.rs]
end Go.Abs.G


namespace Go.Abs.G
open Go.Proofs
attribute [local simp] I.vc sub merge place
set_option linter.unusedVariables false
set_option linter.unusedSimpArgs false

/-- The 'for' of partitionEqual. -/
theorem peq_loop {n a i j : Nat} (hs : n ≤ 1152921504606846976) (ha : a < n) (hi : 1 ≤ i) (hj : j < n) (hij : i ≤ j + 1) (d : Array Int) (hd : d.size = n) (Q : Ex → St → Prop) (sl : Sl) (bs : Nat)
    (h0 : gt sl 0 = dataV n) (h1 : gt sl 1 = vi a) (h10 : gt sl 9 = vi i) (h11 : gt sl 10 = vi j)
    (hq : ∀ s, gt s.sl 0 = dataV n → gt s.sl 1 = vi a → gt s.sl 9 = vi (Go.Sort.partEqLoop Go.Sort.ltInt a i j d).1 → s.hp = [rowsO (Go.Sort.partEqLoop Go.Sort.ltInt a i j d).2] → Q (.exit 0) s) :
    WI Tryz.prog (.loop slices_partitionEqualOrdered_int.b0) Q ⟨sl, [rowsO d], bs⟩ := by
  obtain ⟨S, hS⟩ : ∃ S, Go.Sort.partEqLoop Go.Sort.ltInt a i j d = S := ⟨_, rfl⟩
  rw [hS] at hq
  refine WI.loop 1 (by simp) (fun s => ∃ (x y : Nat) (d' : Array Int), 1 ≤ x ∧ y < n ∧ x ≤ y + 1 ∧ d'.size = n ∧ gt s.sl 0 = dataV n ∧ gt s.sl 1 = vi a ∧ gt s.sl 9 = vi x ∧ gt s.sl 10 = vi y ∧ s.hp = [rowsO d'] ∧ S = Go.Sort.partEqLoop Go.Sort.ltInt a x y d') (fun s => ((gt s.sl 10).num + 1 - (gt s.sl 9).num).toNat) ?_ ?_
  · exact ⟨i, j, d, hi, hj, hij, hd, h0, h1, h10, h11, rfl, hS.symm⟩
  · clear h0 h1 h10 h11
    rintro ⟨sl, hp, bs⟩ ⟨x, y, d', hx, hy, hxy, hd', h0, h1, h10, h11, rfl, he⟩
    have g10 := h10
    have g11 := h11
    rw [Go.Sort.partEqLoop] at he
    have bu := scanUp_bound (fun z => !Go.Sort.ltInt d'[a]! z) d' y (y + 1 - x) x (Nat.le_refl _)
    unfold slices_partitionEqualOrdered_int.b0
    refine vc_block_of ?_
    obtain ⟨i2, hi2⟩ : ∃ k, Go.Sort.scanUp (fun z => !Go.Sort.ltInt d'[a]! z) d' y x = k := ⟨_, rfl⟩
    rw [hi2] at he bu
    have bd := scanDown_bound (fun z => Go.Sort.ltInt d'[a]! z) d' i2 y
    obtain ⟨j2, hj2⟩ : ∃ k, Go.Sort.scanDown (fun z => Go.Sort.ltInt d'[a]! z) d' i2 y = k := ⟨_, rfl⟩
    rw [hj2] at he bd
    have b1 := bu.2 hxy
    have b2 := bd.2 (by omega) b1
    refine vc_cut (fun s => gt s.sl 0 = dataV n ∧ gt s.sl 1 = vi a ∧ gt s.sl 9 = vi i2 ∧ gt s.sl 10 = vi y ∧ s.hp = [rowsO d']) (vc_block_of (peq_up (i := x) (j := y) hs ha hy hxy d' hd' _ _ _ h0 h1 h10 h11 fun s q0 q1 q10 q11 qh => ?_)) ?_
    · rw [hi2] at q10
      exact ⟨q0, q1, q10, q11, qh⟩
    clear h0 h1 h10 h11
    rintro ⟨sl, hp, bs⟩ ⟨h0, h1, h10, h11, rfl⟩
    refine vc_cut (fun s => gt s.sl 0 = dataV n ∧ gt s.sl 1 = vi a ∧ gt s.sl 9 = vi i2 ∧ gt s.sl 10 = vi j2 ∧ s.hp = [rowsO d']) (vc_block_of (peq_dn (i := i2) (j := y) hs ha hy (by omega) (by omega) d' hd' _ _ _ h0 h1 h10 h11 fun s q0 q1 q10 q11 qh => ?_)) ?_
    · rw [hj2] at q11
      exact ⟨q0, q1, q10, q11, qh⟩
    clear h0 h1 h10 h11
    rintro ⟨sl, hp, bs⟩ ⟨h0, h1, h10, h11, rfl⟩
    by_cases hgt : i2 > j2
    · rw [if_pos hgt] at he
      have hgt' : (j2 : Int) < i2 := by omega
      simp -dsimp [h0, h1, h10, h11, hgt']
      exact hq _ (by simp) (by simp) (by simp [he]) (by simp [he])
    · rw [if_neg hgt, dif_pos (by omega)] at he
      have hgt' : ¬ (j2 : Int) < i2 := by omega
      have k1 : i2 < d'.size := by omega
      have k2 : j2 < d'.size := by omega
      have k1' : i2 < n := by omega
      have k2' : j2 < n := by omega
      have hsw := swp_rows d' k1 k2
      have hwi : IntKind.i64.wrap ((i2 : Int) + 1) = ((i2 + 1 : Nat) : Int) := by rw [wrap64] <;> omega
      have hwj : IntKind.i64.wrap ((j2 : Int) - 1) = ((j2 - 1 : Nat) : Int) := by rw [wrap64] <;> omega
      have heq : ¬ i2 = j2 := by
        intro heq
        have t1 := scanUp_stop (fun z => !Go.Sort.ltInt d'[a]! z) d' y (y + 1 - x) x (Nat.le_refl _) (by rw [hi2]; omega)
        have t2 := scanDown_stop (fun z => Go.Sort.ltInt d'[a]! z) d' i2 (by omega) y (by rw [hj2]; omega)
        rw [hi2] at t1
        rw [hj2, ← heq] at t2
        rw [t2] at t1
        cases t1
      simp -dsimp [h0, h1, h10, h11, hgt', hd', k1', k2', heq, hwi, hwj, List.getElem_set, g10, g11]
      exact ⟨⟨i2 + 1, by omega, j2 - 1, by omega, by omega, Go.Sort.swp d' i2 j2, by rw [swp_size]; exact hd', by omega, rfl, hsw, he⟩, by omega⟩


theorem partEq_spec (d : Array Int) (a b pivot : Nat) (hap : a ≤ pivot) (hpb : pivot < b) (hab : a + 2 < b) (hb : b ≤ d.size) (hs : d.size ≤ 1152921504606846976) :
    DC Tryz.prog slices_partitionEqualOrdered_int.id [dataV d.size, vi a, vi b, vi pivot] [rowsO d] (fun r H => r = vi (Go.Sort.partitionEqual Go.Sort.ltInt d a b pivot).1 ∧ H = [rowsO (Go.Sort.partitionEqual Go.Sort.ltInt d a b pivot).2]) := by
  refine DC.of slices_partitionEqualOrdered_int.ok (by simp) ?_
  obtain ⟨R, hR⟩ : ∃ R, Go.Sort.partitionEqual Go.Sort.ltInt d a b pivot = R := ⟨_, rfl⟩
  rw [hR]
  unfold Go.Sort.partitionEqual at hR
  obtain ⟨n, hn⟩ : ∃ n, d.size = n := ⟨_, rfl⟩
  obtain ⟨d1, hd1⟩ : ∃ x, Go.Sort.swp d a pivot = x := ⟨_, rfl⟩
  have z1 : d1.size = n := by rw [← hd1, swp_size, hn]
  rw [hd1] at hR
  rw [hn]
  have hsn : n ≤ 1152921504606846976 := by omega
  have w1 : IntKind.i64.wrap ((a : Int) + 1) = ((a + 1 : Nat) : Int) := by rw [wrap64] <;> omega
  have w2 : IntKind.i64.wrap ((b : Int) - 1) = ((b - 1 : Nat) : Int) := by rw [wrap64] <;> omega
  have ka : a < d.size := by omega
  have kp : pivot < d.size := by omega
  have ka' : a < n := by omega
  have kp' : pivot < n := by omega
  unfold slices_partitionEqualOrdered_int.ir
  refine vc_cut (fun s => gt s.sl 0 = dataV n ∧ gt s.sl 1 = vi a ∧ gt s.sl 2 = vi b ∧ gt s.sl 3 = vi pivot ∧ s.hp = [rowsO d]) (by simp -dsimp) ?_
  rintro ⟨sl, hp, bs⟩ ⟨h0, h1, h2, h3, rfl⟩
  refine vc_cut (fun s => gt s.sl 0 = dataV n ∧ gt s.sl 1 = vi a ∧ gt s.sl 2 = vi b ∧ s.hp = [rowsO d1]) ?_ ?_
  · have hsw := swp_rows d ka kp
    rw [hd1] at hsw
    by_cases heq : a = pivot
    · clear hR hd1
      subst heq
      simp only [List.set_set] at hsw
      simp -dsimp [h0, h1, h2, h3, hn, ka', kp', List.getElem_set]
      exact hsw
    · simp -dsimp [h0, h1, h2, h3, hn, ka', kp', heq, List.getElem_set, hsw]
  clear h0 h1 h2 h3
  rintro ⟨sl, hp, bs⟩ ⟨h0, h1, h2, rfl⟩
  refine vc_cut (fun s => gt s.sl 0 = dataV n ∧ gt s.sl 1 = vi a ∧ gt s.sl 9 = vi (a + 1 : Nat) ∧ gt s.sl 10 = vi (b - 1 : Nat) ∧ s.hp = [rowsO d1]) (by simp -dsimp [h0, h1, h2, w1, w2]) ?_
  clear h0 h1 h2
  rintro ⟨sl, hp, bs⟩ ⟨h0, h1, h10, h11, rfl⟩
  refine vc_cut (fun s => gt s.sl 9 = vi R.1 ∧ s.hp = [rowsO R.2]) (vc_block_of (peq_loop (i := a + 1) (j := b - 1) hsn ka' (by omega) (by omega) (by omega) d1 z1 _ _ _ h0 h1 h10 h11 fun s q0 q1 q11 qh => ?_)) ?_
  · rw [hR] at q11 qh
    exact ⟨q11, qh⟩
  clear h0 h1 h10 h11
  rintro ⟨sl, hp, bs⟩ ⟨h9, rfl⟩
  simp -dsimp [h9, slices_partitionEqualOrdered_int.rs]
end Go.Abs.G


namespace Go.Abs.G
open Go.Proofs
attribute [local simp] I.vc sub merge place
set_option linter.unusedVariables false
set_option linter.unusedSimpArgs false

abbrev pins (n a b i s : Nat) (st : St) : Prop := gt st.sl 0 = dataV n ∧ gt st.sl 1 = vi a ∧ gt st.sl 2 = vi b ∧ gt st.sl 7 = vi i ∧ gt st.sl 8 = vi s

theorem pins_scan {n a b i s : Nat} (hs : n ≤ 1152921504606846976) (hb : b ≤ n) (hi : 1 ≤ i) (hin : i ≤ n) (d : Array Int) (hd : d.size = n) (Q : Ex → St → Prop) (sl : Sl) (bs : Nat)
    (h : pins n a b i s ⟨sl, [rowsO d], bs⟩) (hq : ∀ st, pins n a b (Go.Sort.scanSorted Go.Sort.ltInt d b i) s st → st.hp = [rowsO d] → Q (.exit 2) st) :
    WI Tryz.prog (.loop slices_partialInsertionSortOrdered_int.b1) Q ⟨sl, [rowsO d], bs⟩ := by
  obtain ⟨S, hS⟩ : ∃ S, Go.Sort.scanSorted Go.Sort.ltInt d b i = S := ⟨_, rfl⟩
  rw [hS] at hq
  refine WI.loop 1 (by simp) (fun st => ∃ k : Nat, 1 ≤ k ∧ k ≤ n ∧ pins n a b k s st ∧ st.hp = [rowsO d] ∧ S = Go.Sort.scanSorted Go.Sort.ltInt d b k) (fun st => (b - (gt st.sl 7).num).toNat) ?_ ?_
  · exact ⟨i, hi, hin, h, rfl, hS.symm⟩
  · clear h
    rintro ⟨sl, hp, bs⟩ ⟨k, hk, hkn, ⟨h0, h1, h2, h7, h8⟩, rfl, he⟩
    rw [Go.Sort.scanSorted] at he
    by_cases hkb : k < b
    · obtain ⟨m, rfl⟩ : ∃ m, k = m + 1 := ⟨k - 1, by omega⟩
      have hm : m + 1 - 1 = m := by omega
      rw [hm] at he
      obtain ⟨q, hq'⟩ : ∃ q, m + 1 = q := ⟨_, rfl⟩
      rw [hq'] at he h7 hkb
      have k1 : q < d.size := by omega
      have k0 : m < d.size := by omega
      have k1' : q < n := by omega
      have k0' : m < n := by omega
      have hkb' : (q : Int) < b := by omega
      have hw : IntKind.i64.wrap ((q : Int) - 1) = (m : Int) := by rw [wrap64] <;> omega
      have hw2 : IntKind.i64.wrap ((q : Int) + 1) = ((q + 1 : Nat) : Int) := by rw [wrap64] <;> omega
      rw [get_bang d k1, get_bang d k0] at he
      simp -dsimp [↓call_f, slices_partialInsertionSortOrdered_int.b1, h0, h1, h2, h7, h8, hkb, hkb', hw, k1', k0', hd]
      refine (less_spec d[q] d[m]).use ?_
      by_cases hlt : Go.Sort.ltInt d[q] d[m] = true
      · simp only [hlt] at he
        rw [if_neg (by simp)] at he
        simp -dsimp [hlt, h0, h1, h2, h7, h8]
        exact hq _ ⟨by simp, by simp, by simp, by simp [he], by simp⟩ (by simp)
      · have hlt : Go.Sort.ltInt d[q] d[m] = false := by simpa using hlt
        simp only [hlt] at he
        rw [if_pos (by simp; omega)] at he
        simp -dsimp [hlt, h0, h1, h2, h7, h8, hw2, pins]
        exact ⟨⟨q + 1, by omega, by omega, by omega, he⟩, by omega⟩
    · have hkb' : ¬ (k : Int) < b := by omega
      rw [if_neg (by simp; omega)] at he
      simp -dsimp [slices_partialInsertionSortOrdered_int.b1, h0, h1, h2, h7, h8, hkb, hkb']
      exact hq _ ⟨by simp, by simp, by simp, by simp [he], by simp⟩ (by simp)

theorem shiftDown_size : ∀ (j : Nat) (d : Array Int), (Go.Sort.shiftDown Go.Sort.ltInt j d).size = d.size := by
  intro j
  induction j with
  | zero => intro d; rfl
  | succ j ih =>
    intro d
    simp only [Go.Sort.shiftDown]
    split
    · rfl
    · rw [ih, swp_size]

theorem shiftUp_size (b : Nat) : ∀ (k j : Nat) (d : Array Int), b - j ≤ k → (Go.Sort.shiftUp Go.Sort.ltInt b j d).size = d.size := by
  intro k
  induction k with
  | zero => intro j d h; rw [Go.Sort.shiftUp, if_neg (by omega)]
  | succ k ih =>
    intro j d h
    rw [Go.Sort.shiftUp]
    split
    · split
      · rfl
      · rw [ih _ _ (by omega), swp_size]
    · rfl

theorem pins_down {n a b i s j : Nat} (hs : n ≤ 1152921504606846976) (hj : j < n) (d : Array Int) (hd : d.size = n) (Q : Ex → St → Prop) (sl : Sl) (bs : Nat)
    (h : pins n a b i s ⟨sl, [rowsO d], bs⟩) (h9 : gt sl 9 = vi j) (hq : ∀ st, pins n a b i s st → st.hp = [rowsO (Go.Sort.shiftDown Go.Sort.ltInt j d)] → Q (.exit 4) st) :
    WI Tryz.prog (.loop slices_partialInsertionSortOrdered_int.b2) Q ⟨sl, [rowsO d], bs⟩ := by
  obtain ⟨S, hS⟩ : ∃ S, Go.Sort.shiftDown Go.Sort.ltInt j d = S := ⟨_, rfl⟩
  rw [hS] at hq
  refine WI.loop 1 (by simp) (fun st => ∃ (k : Nat) (d' : Array Int), k < n ∧ d'.size = n ∧ pins n a b i s st ∧ gt st.sl 9 = vi k ∧ st.hp = [rowsO d'] ∧ S = Go.Sort.shiftDown Go.Sort.ltInt k d') (fun st => (gt st.sl 9).num.toNat) ?_ ?_
  · exact ⟨j, d, hj, hd, h, h9, rfl, hS.symm⟩
  · clear h h9 hd
    rintro ⟨sl, hp, bs⟩ ⟨k, d', hk, hd, ⟨h0, h1, h2, h7, h8⟩, h9, rfl, he⟩
    have g9 := h9
    cases k with
    | zero =>
      have he : S = d' := he
      simp -dsimp [slices_partialInsertionSortOrdered_int.b2, h0, h1, h2, h7, h8, h9]
      exact hq _ ⟨by simp, by simp, by simp, by simp, by simp⟩ (by simp [he])
    | succ m =>
      simp only [Go.Sort.shiftDown] at he
      obtain ⟨q, hq'⟩ : ∃ q, m + 1 = q := ⟨_, rfl⟩
      rw [hq'] at he h9 g9
      have k1 : q < d'.size := by omega
      have k0 : m < d'.size := by omega
      have k1' : q < n := by omega
      have k0' : m < n := by omega
      have hge : (1 : Int) ≤ q := by omega
      have hne : ¬ q = m := by omega
      have hw : IntKind.i64.wrap ((q : Int) - 1) = (m : Int) := by rw [wrap64] <;> omega
      have hsw := swp_rows d' k1 k0
      rw [get_bang d' k1, get_bang d' k0] at he
      simp -dsimp [↓call_f, slices_partialInsertionSortOrdered_int.b2, h0, h1, h2, h7, h8, h9, hge, hw, k1', k0', hd]
      refine (less_spec d'[q] d'[m]).use ?_
      by_cases hlt : Go.Sort.ltInt d'[q] d'[m] = true
      · simp only [hlt] at he
        rw [if_neg (by simp)] at he
        simp -dsimp [hlt, h0, h1, h2, h7, h8, h9, hw, k1', k0', hd, hne, List.getElem_set, pins]
        exact ⟨⟨m, by omega, Go.Sort.swp d' q m, by rw [swp_size]; exact hd, rfl, hsw, he⟩, by omega⟩
      · have hlt : Go.Sort.ltInt d'[q] d'[m] = false := by simpa using hlt
        simp only [hlt] at he
        rw [if_pos (by simp)] at he
        simp -dsimp [hlt, h0, h1, h2, h7, h8, h9]
        exact hq _ ⟨by simp, by simp, by simp, by simp, by simp⟩ (by simp [he])

theorem pins_up {n a b i s j : Nat} (hs : n ≤ 1152921504606846976) (hb : b ≤ n) (hj1 : 1 ≤ j) (hj : j ≤ n) (d : Array Int) (hd : d.size = n) (Q : Ex → St → Prop) (sl : Sl) (bs : Nat)
    (h : pins n a b i s ⟨sl, [rowsO d], bs⟩) (h9 : gt sl 10 = vi j) (hq : ∀ st, pins n a b i s st → st.hp = [rowsO (Go.Sort.shiftUp Go.Sort.ltInt b j d)] → Q (.exit 6) st) :
    WI Tryz.prog (.loop slices_partialInsertionSortOrdered_int.b3) Q ⟨sl, [rowsO d], bs⟩ := by
  obtain ⟨S, hS⟩ : ∃ S, Go.Sort.shiftUp Go.Sort.ltInt b j d = S := ⟨_, rfl⟩
  rw [hS] at hq
  refine WI.loop 1 (by simp) (fun st => ∃ (k : Nat) (d' : Array Int), 1 ≤ k ∧ k ≤ n ∧ d'.size = n ∧ pins n a b i s st ∧ gt st.sl 10 = vi k ∧ st.hp = [rowsO d'] ∧ S = Go.Sort.shiftUp Go.Sort.ltInt b k d') (fun st => (b - (gt st.sl 10).num).toNat) ?_ ?_
  · exact ⟨j, d, hj1, hj, hd, h, h9, rfl, hS.symm⟩
  · clear h h9 hd
    rintro ⟨sl, hp, bs⟩ ⟨q, d', hk1, hk, hd, ⟨h0, h1, h2, h7, h8⟩, h9, rfl, he⟩
    have g9 := h9
    rw [Go.Sort.shiftUp] at he
    by_cases hqb : q < b
    · rw [if_pos hqb] at he
      obtain ⟨m, hm⟩ : ∃ m, q - 1 = m := ⟨_, rfl⟩
      rw [hm] at he
      have k1 : q < d'.size := by omega
      have k0 : m < d'.size := by omega
      have k1' : q < n := by omega
      have k0' : m < n := by omega
      have hqb' : (q : Int) < b := by omega
      have hne : ¬ q = m := by omega
      have hw : IntKind.i64.wrap ((q : Int) - 1) = (m : Int) := by rw [wrap64] <;> omega
      have hw2 : IntKind.i64.wrap ((q : Int) + 1) = ((q + 1 : Nat) : Int) := by rw [wrap64] <;> omega
      have hsw := swp_rows d' k1 k0
      rw [get_bang d' k1, get_bang d' k0] at he
      simp -dsimp [↓call_f, slices_partialInsertionSortOrdered_int.b3, h0, h1, h2, h7, h8, h9, hqb, hqb', hw, k1', k0', hd]
      refine (less_spec d'[q] d'[m]).use ?_
      by_cases hlt : Go.Sort.ltInt d'[q] d'[m] = true
      · simp only [hlt] at he
        rw [if_neg (by simp)] at he
        simp -dsimp [hlt, h0, h1, h2, h7, h8, h9, hw, hw2, k1', k0', hd, hne, List.getElem_set, pins]
        exact ⟨⟨q + 1, by omega, by omega, Go.Sort.swp d' q m, by rw [swp_size]; exact hd, by omega, hsw, he⟩, by omega⟩
      · have hlt : Go.Sort.ltInt d'[q] d'[m] = false := by simpa using hlt
        simp only [hlt] at he
        rw [if_pos (by simp)] at he
        simp -dsimp [hlt, h0, h1, h2, h7, h8, h9]
        exact hq _ ⟨by simp, by simp, by simp, by simp, by simp⟩ (by simp [he])
    · have hqb' : ¬ (q : Int) < b := by omega
      rw [if_neg hqb] at he
      simp -dsimp [slices_partialInsertionSortOrdered_int.b3, h0, h1, h2, h7, h8, h9, hqb, hqb']
      exact hq _ ⟨by simp, by simp, by simp, by simp, by simp⟩ (by simp [he])

theorem scanSorted_bound (d : Array Int) (b : Nat) : ∀ (k i : Nat), b - i ≤ k → i ≤ Go.Sort.scanSorted Go.Sort.ltInt d b i ∧ (i ≤ b → Go.Sort.scanSorted Go.Sort.ltInt d b i ≤ b) := by
  intro k
  induction k with
  | zero =>
    intro i h
    rw [Go.Sort.scanSorted, if_neg (by simp; omega)]
    exact ⟨Nat.le_refl _, fun h => h⟩
  | succ k ih =>
    intro i h
    rw [Go.Sort.scanSorted]
    split
    · next hc =>
      simp at hc
      have := ih (i + 1) (by omega)
      exact ⟨by omega, fun _ => this.2 (by omega)⟩
    · exact ⟨Nat.le_refl _, fun h => h⟩

set_option maxHeartbeats 1000000 in
theorem pins_spec (d : Array Int) (a b : Nat) (hab : a + 12 < b) (hb : b ≤ d.size) (hs : d.size ≤ 1152921504606846976) :
    DC Tryz.prog slices_partialInsertionSortOrdered_int.id [dataV d.size, vi a, vi b] [rowsO d] (fun r H => r = .bool (Go.Sort.partialInsertionSort Go.Sort.ltInt d a b).2 ∧ H = [rowsO (Go.Sort.partialInsertionSort Go.Sort.ltInt d a b).1]) := by
  refine DC.of slices_partialInsertionSortOrdered_int.ok (by simp) ?_
  obtain ⟨R, hR⟩ : ∃ R, Go.Sort.partialInsertionSort Go.Sort.ltInt d a b = R := ⟨_, rfl⟩
  rw [hR]
  unfold Go.Sort.partialInsertionSort at hR
  obtain ⟨n, hn⟩ : ∃ n, d.size = n := ⟨_, rfl⟩
  rw [hn]
  have w1 : IntKind.i64.wrap ((a : Int) + 1) = ((a + 1 : Nat) : Int) := by rw [wrap64] <;> omega
  simp -dsimp [↓loop_f, slices_partialInsertionSortOrdered_int.ir, w1]
  refine WI.mono (Q := fun e st => (e = .exit 0 ∧ R.2 = false ∧ st.hp = [rowsO R.1]) ∨ (e = .ret ∧ gt st.sl 6 = .bool R.2 ∧ st.hp = [rowsO R.1])) (WI.loop 1 (by simp) (fun st => ∃ (s i : Nat) (d' : Array Int), s ≤ 5 ∧ a + 1 ≤ i ∧ i ≤ b ∧ d'.size = n ∧ pins n a b i s st ∧ st.hp = [rowsO d'] ∧ R = Go.Sort.partialIns Go.Sort.ltInt a b (5 - s) i d') (fun st => (5 - (gt st.sl 8).num).toNat) ?_ ?_) ?_
  · exact ⟨0, a + 1, d, by omega, by omega, by omega, hn, ⟨by simp, by simp, by simp, by simp, by simp⟩, rfl, hR.symm⟩
  · rintro ⟨sl, hp, bs⟩ ⟨s, i, d', hs5, hi1, hib, hd, ⟨h0, h1, h2, h7, h8⟩, rfl, he⟩
    by_cases hlt5 : s < 5
    · obtain ⟨t, ht⟩ : ∃ t, 5 - s = t + 1 := ⟨4 - s, by omega⟩
      have ht' : 5 - (s + 1) = t := by omega
      rw [ht] at he
      simp only [Go.Sort.partialIns] at he
      have i5 : (s : Int) < 5 := by omega
      have g8 := h8
      obtain ⟨k, hk⟩ : ∃ k, Go.Sort.scanSorted Go.Sort.ltInt d' b i = k := ⟨_, rfl⟩
      have bk := scanSorted_bound d' b (b - i) i (Nat.le_refl _)
      rw [hk] at he bk
      have hkb := bk.2 hib
      have hk1 := bk.1
      unfold slices_partialInsertionSortOrdered_int.b0
      refine vc_cut (fun st => pins n a b i s st ∧ st.hp = [rowsO d']) (by simp -dsimp [h0, h1, h2, h7, h8, i5, pins]) ?_
      clear h0 h1 h2 h7 h8
      rintro ⟨sl, hp, bs⟩ ⟨h, rfl⟩
      refine vc_cut (fun st => ∃ (x : Nat) (d2 : Array Int), a + 1 ≤ x ∧ x ≤ b ∧ d2.size = n ∧ pins n a b x s st ∧ st.hp = [rowsO d2] ∧ R = Go.Sort.partialIns Go.Sort.ltInt a b t x d2) (vc_block_of ?_) ?_
      · refine vc_cut (fun st => pins n a b k s st ∧ st.hp = [rowsO d']) (vc_block_of (pins_scan (by omega) (by omega) (by omega) (by omega) d' hd _ _ _ h fun st q qh => ?_)) ?_
        · rw [hk] at q
          exact ⟨q, qh⟩
        clear h
        rintro ⟨sl, hp, bs⟩ ⟨⟨h0, h1, h2, h7, h8⟩, rfl⟩
        by_cases hkeq : k = b
        · rw [if_pos hkeq] at he
          have i1 : (k : Int) = b := by omega
          simp -dsimp [h0, h1, h2, h7, h8, i1, he]
        rw [if_neg hkeq] at he
        have i1 : ¬ (k : Int) = b := by omega
        refine vc_cut (fun st => pins n a b k s st ∧ st.hp = [rowsO d']) (by simp -dsimp [h0, h1, h2, h7, h8, i1, pins]) ?_
        clear h0 h1 h2 h7 h8
        rintro ⟨sl, hp, bs⟩ ⟨⟨h0, h1, h2, h7, h8⟩, rfl⟩
        have w2 : IntKind.i64.wrap ((b : Int) - a) = ((b - a : Nat) : Int) := by rw [wrap64] <;> omega
        by_cases h50 : b - a < 50
        · rw [if_pos h50] at he
          have i2 : ((b - a : Nat) : Int) < 50 := by omega
          simp -dsimp [h0, h1, h2, h7, h8, w2, i2, h50, he]
        rw [if_neg h50] at he
        have i2 : ¬ ((b - a : Nat) : Int) < 50 := by omega
        refine vc_cut (fun st => pins n a b k s st ∧ st.hp = [rowsO d']) (by simp -dsimp [h0, h1, h2, h7, h8, w2, i2, h50, pins]) ?_
        clear h0 h1 h2 h7 h8
        rintro ⟨sl, hp, bs⟩ ⟨⟨h0, h1, h2, h7, h8⟩, rfl⟩
        obtain ⟨m, hm⟩ : ∃ m, k - 1 = m := ⟨_, rfl⟩
        rw [hm] at he
        obtain ⟨d1, hd1⟩ : ∃ x, Go.Sort.swp d' k m = x := ⟨_, rfl⟩
        rw [hd1] at he
        have z1 : d1.size = n := by rw [← hd1, swp_size, hd]
        have k1 : k < d'.size := by omega
        have k0 : m < d'.size := by omega
        have k1' : k < n := by omega
        have k0' : m < n := by omega
        have hne : ¬ k = m := by omega
        have hsw := swp_rows d' k1 k0
        rw [hd1] at hsw
        have w3 : IntKind.i64.wrap ((k : Int) - 1) = (m : Int) := by rw [wrap64] <;> omega
        refine vc_cut (fun st => pins n a b k s st ∧ st.hp = [rowsO d1]) (by simp -dsimp [h0, h1, h2, h7, h8, w3, k1', k0', hd, hne, List.getElem_set, pins, hsw]) ?_
        clear h0 h1 h2 h7 h8
        rintro ⟨sl, hp, bs⟩ ⟨⟨h0, h1, h2, h7, h8⟩, rfl⟩
        obtain ⟨d2, hd2⟩ : ∃ x, (if k - a ≥ 2 then Go.Sort.shiftDown Go.Sort.ltInt m d1 else d1) = x := ⟨_, rfl⟩
        rw [hd2] at he
        have z2 : d2.size = n := by
          rw [← hd2]
          split
          · rw [shiftDown_size, z1]
          · exact z1
        have w4 : IntKind.i64.wrap ((k : Int) - a) = ((k - a : Nat) : Int) := by rw [wrap64] <;> omega
        refine vc_cut (fun st => pins n a b k s st ∧ st.hp = [rowsO d2]) ?_ ?_
        · by_cases hc : k - a ≥ 2
          · rw [if_pos hc] at hd2
            have ic : (2 : Int) ≤ ((k - a : Nat) : Int) := by omega
            simp -dsimp [↓loop_f, h0, h1, h2, h7, h8, w3, w4, ic]
            refine pins_down (n := n) (a := a) (b := b) (s := s) (i := k) (j := m) (by omega) k0' d1 z1 _ _ _ ⟨by simp, by simp, by simp, by simp, by simp⟩ (by simp) fun st q qh => ?_
            rw [hd2] at qh
            exact ⟨q, qh⟩
          · rw [if_neg hc] at hd2
            have ic : ¬ (2 : Int) ≤ ((k - a : Nat) : Int) := by omega
            simp -dsimp [h0, h1, h2, h7, h8, w4, ic, pins, hd2]
        clear h0 h1 h2 h7 h8
        rintro ⟨sl, hp, bs⟩ ⟨⟨h0, h1, h2, h7, h8⟩, rfl⟩
        obtain ⟨d3, hd3⟩ : ∃ x, (if b - k ≥ 2 then Go.Sort.shiftUp Go.Sort.ltInt b (k + 1) d2 else d2) = x := ⟨_, rfl⟩
        rw [hd3] at he
        have z3 : d3.size = n := by
          rw [← hd3]
          split
          · rw [shiftUp_size b (b - (k + 1)) (k + 1) d2 (Nat.le_refl _), z2]
          · exact z2
        have w5 : IntKind.i64.wrap ((b : Int) - k) = ((b - k : Nat) : Int) := by rw [wrap64] <;> omega
        have w6 : IntKind.i64.wrap ((k : Int) + 1) = ((k + 1 : Nat) : Int) := by rw [wrap64] <;> omega
        have fin : ∀ st, pins n a b k s st → st.hp = [rowsO d3] → ∃ (x : Nat) (d2 : Array Int), a + 1 ≤ x ∧ x ≤ b ∧ d2.size = n ∧ pins n a b x s st ∧ st.hp = [rowsO d2] ∧ R = Go.Sort.partialIns Go.Sort.ltInt a b t x d2 :=
          fun st q qh => ⟨k, d3, by omega, hkb, z3, q, qh, he⟩
        by_cases hc : b - k ≥ 2
        · rw [if_pos hc] at hd3
          have ic : (2 : Int) ≤ ((b - k : Nat) : Int) := by omega
          simp -dsimp [↓loop_f, h0, h1, h2, h7, h8, w5, w6, ic]
          refine pins_up (n := n) (a := a) (b := b) (s := s) (i := k) (j := k + 1) (by omega) (by omega) (by omega) (by omega) d2 z2 _ _ _ ⟨by simp, by simp, by simp, by simp, by simp⟩ (by simp) fun st q qh => ?_
          rw [hd3] at qh
          exact fin st q qh
        · rw [if_neg hc] at hd3
          have ic : ¬ (2 : Int) ≤ ((b - k : Nat) : Int) := by omega
          refine vc_mono (Q := fun e st => e = .norm ∧ pins n a b k s st ∧ st.hp = [rowsO d3]) ?_ (by simp -dsimp [h0, h1, h2, h7, h8, w5, ic, pins, hd3])
          rintro e st ⟨rfl, q, qh⟩
          exact fin st q qh
      · clear h
        rintro ⟨sl, hp, bs⟩ ⟨x, d2, hx1, hx2, z2, ⟨h0, h1, h2, h7, h8⟩, rfl, he⟩
        have w7 : IntKind.i64.wrap ((s : Int) + 1) = ((s + 1 : Nat) : Int) := by rw [wrap64] <;> omega
        simp -dsimp [h0, h1, h2, h7, h8, w7, g8, pins]
        exact ⟨⟨s + 1, by omega, x, by omega, by omega, d2, z2, ⟨by omega, by omega⟩, rfl, by rw [ht']; exact he⟩, by omega⟩
    · obtain rfl : s = 5 := by omega
      have he : R = (d', false) := he
      simp -dsimp [slices_partialInsertionSortOrdered_int.b0, h0, h1, h2, h7, h8, he]
  · rintro e ⟨sl, hp, bs⟩ (⟨rfl, hf, rfl⟩ | ⟨rfl, h6, rfl⟩)
    · simp -dsimp [hf, slices_partialInsertionSortOrdered_int.rs]
    · simp -dsimp [h6, slices_partialInsertionSortOrdered_int.rs]
end Go.Abs.G


namespace Go.Abs.G
open Go.Proofs
attribute [local simp] I.vc sub merge place
set_option linter.unusedVariables false
set_option linter.unusedSimpArgs false

abbrev vu (n : Nat) : V := .a (.int .u64 (n : Int))
abbrev rndO (r : Nat) : O := .mem false [] [[V.a (.int .u64 (r : Int))]]

theorem wrapu64 (n : Nat) : IntKind.u64.wrap (n : Int) = ((n % 18446744073709551616 : Nat) : Int) := by
  simp [IntKind.wrap, IntKind.bits, IntKind.signed]
theorem bv64 (n : Nat) (h : n < 18446744073709551616) : (BitVec.ofNat 64 n).toNat = n := by
  simp; omega
theorem xor64 (x y : Nat) (hx : x < 18446744073709551616) (hy : y < 18446744073709551616) : IntKind.u64.wrap ((BitVec.ofNat IntKind.u64.bits x ^^^ BitVec.ofNat IntKind.u64.bits y).toNat : Int) = ((x ^^^ y : Nat) : Int) := by
  show IntKind.u64.wrap ((BitVec.ofNat 64 x ^^^ BitVec.ofNat 64 y).toNat : Int) = _
  rw [BitVec.toNat_xor, bv64 x hx, bv64 y hy, wrapu64, Nat.mod_eq_of_lt]
  exact Nat.xor_lt_two_pow (n := 64) hx hy
theorem and64 (x y : Nat) (hx : x < 18446744073709551616) (hy : y < 18446744073709551616) : IntKind.u64.wrap ((BitVec.ofNat IntKind.u64.bits x &&& BitVec.ofNat IntKind.u64.bits y).toNat : Int) = ((x &&& y : Nat) : Int) := by
  show IntKind.u64.wrap ((BitVec.ofNat 64 x &&& BitVec.ofNat 64 y).toNat : Int) = _
  rw [BitVec.toNat_and, bv64 x hx, bv64 y hy, wrapu64, Nat.mod_eq_of_lt]
  exact Nat.lt_of_le_of_lt Nat.and_le_left hx
theorem shl64 (x k : Nat) : IntKind.u64.wrap ((x : Int) * (k : Int)) = ((x * k % 18446744073709551616 : Nat) : Int) := by
  rw [← Int.natCast_mul, wrapu64]
theorem fdivNs (x k : Nat) : Int.fdiv (x : Int) (k : Int) = ((x / k : Nat) : Int) := by
  rw [Int.fdiv_eq_ediv_of_nonneg _ (by omega)]; simp

theorem bitsLen_div (x k : Nat) (h : 2 ^ k ≤ x) : Go.Sort.bitsLen x = Go.Sort.bitsLen (x / 2 ^ k) + k := by
  have hx := Go.Sort.lt_two_pow_bitsLen x
  have hk : k ≤ Go.Sort.bitsLen x := by
    refine Nat.le_of_not_lt fun hn => ?_
    have := Nat.pow_lt_pow_right (a := 2) (by omega) hn
    omega
  apply Nat.le_antisymm
  · rw [Go.Sort.bitsLen_le_iff]
    have := Go.Sort.lt_two_pow_bitsLen (x / 2 ^ k)
    rw [Nat.div_lt_iff_lt_mul (Nat.two_pow_pos k)] at this
    rwa [Nat.pow_add]
  · have : Go.Sort.bitsLen (x / 2 ^ k) ≤ Go.Sort.bitsLen x - k := by
      rw [Go.Sort.bitsLen_le_iff, Nat.div_lt_iff_lt_mul (Nat.two_pow_pos k), ← Nat.pow_add, Nat.sub_add_cancel hk]
      exact hx
    omega

theorem xorshift_spec (r : Nat) (h : r < 18446744073709551616) :
    DC Tryz.prog slices_xorshift_Next.id [.ptr 0 1 0 0] [rndO r] (fun x H => x = vu (Go.Sort.xorNextN r) ∧ H = [rndO (Go.Sort.xorNextN r)]) := by
  refine DC.of slices_xorshift_Next.ok (by simp) ?_
  unfold slices_xorshift_Next.ir
  obtain ⟨a, ha⟩ : ∃ a, a = r ^^^ (r * 8192 % 18446744073709551616) := ⟨_, rfl⟩
  obtain ⟨b, hb⟩ : ∃ b, b = a ^^^ (a / 128) := ⟨_, rfl⟩
  obtain ⟨c, hc⟩ : ∃ c, c = b ^^^ (b * 131072 % 18446744073709551616) := ⟨_, rfl⟩
  have e : Go.Sort.xorNextN r = c := by rw [hc, hb, ha]; rfl
  have la : a < 18446744073709551616 := by rw [ha]; exact Nat.xor_lt_two_pow (n := 64) h (by omega)
  have lb : b < 18446744073709551616 := by rw [hb]; exact Nat.xor_lt_two_pow (n := 64) la (by omega)
  have e1 : IntKind.u64.wrap ((r : Int) * 8192) = _ := shl64 r 8192
  have e2 : Int.fdiv (a : Int) 128 = _ := fdivNs a 128
  have e3 : IntKind.u64.wrap ((b : Int) * 131072) = _ := shl64 b 131072
  have x1 := xor64 r (r * 8192 % 18446744073709551616) h (by omega)
  have x2 := xor64 a (a / 128) la (by omega)
  have x3 := xor64 b (b * 131072 % 18446744073709551616) lb (by omega)
  rw [← ha] at x1; rw [← hb] at x2; rw [← hc] at x3
  clear ha hb hc
  rw [e]
  obtain ⟨s1, hs1⟩ : ∃ s1, r * 8192 % 18446744073709551616 = s1 := ⟨_, rfl⟩
  obtain ⟨s2, hs2⟩ : ∃ s2, a / 128 = s2 := ⟨_, rfl⟩
  obtain ⟨s3, hs3⟩ : ∃ s3, b * 131072 % 18446744073709551616 = s3 := ⟨_, rfl⟩
  rw [hs1] at e1 x1; rw [hs2] at e2 x2; rw [hs3] at e3 x3
  have m1 : min 13 IntKind.u64.bits = 13 := rfl
  have m2 : min 7 IntKind.u64.bits = 7 := rfl
  have m3 : min 17 IntKind.u64.bits = 17 := rfl
  refine vc_cut (fun s => gt s.sl 0 = .ptr 0 1 0 0 ∧ s.hp = [rndO r]) (by simp -dsimp) ?_
  rintro ⟨sl, hp, bs⟩ ⟨h0, rfl⟩
  refine vc_cut (fun s => gt s.sl 0 = .ptr 0 1 0 0 ∧ s.hp = [rndO a]) (by simp -dsimp [-BitVec.toNat_xor, h0, m1, e1, x1]) ?_
  rintro ⟨sl, hp, bs⟩ ⟨h0, rfl⟩
  refine vc_cut (fun s => gt s.sl 0 = .ptr 0 1 0 0 ∧ s.hp = [rndO b]) (by simp -dsimp [-BitVec.toNat_xor, h0, m2, e2, x2]) ?_
  rintro ⟨sl, hp, bs⟩ ⟨h0, rfl⟩
  refine vc_cut (fun s => gt s.sl 0 = .ptr 0 1 0 0 ∧ s.hp = [rndO c]) (by simp -dsimp [-BitVec.toNat_xor, h0, m3, e3, x3]) ?_
  rintro ⟨sl, hp, bs⟩ ⟨h0, rfl⟩
  simp -dsimp [h0, slices_xorshift_Next.rs]

theorem len_step (x k : Nat) : ∃ y m : Nat, (2 ^ k ≤ x ∧ y = x / 2 ^ k ∧ m = k ∨ ¬ 2 ^ k ≤ x ∧ y = x ∧ m = 0) ∧ Go.Sort.bitsLen x = Go.Sort.bitsLen y + m := by
  by_cases h : 2 ^ k ≤ x
  · exact ⟨_, _, Or.inl ⟨h, rfl, rfl⟩, bitsLen_div x k h⟩
  · exact ⟨_, _, Or.inr ⟨h, rfl, rfl⟩, rfl⟩

def lenTab : ByteArray := ⟨#[0, 1, 2, 2, 3, 3, 3, 3, 4, 4, 4, 4, 4, 4, 4, 4, 5, 5, 5, 5, 5, 5, 5, 5, 5, 5, 5, 5, 5, 5, 5, 5, 6, 6, 6, 6, 6, 6, 6, 6, 6, 6, 6, 6, 6, 6, 6, 6, 6, 6, 6, 6, 6, 6, 6, 6, 6, 6, 6, 6, 6, 6, 6, 6, 7, 7, 7, 7, 7, 7, 7, 7, 7, 7, 7, 7, 7, 7, 7, 7, 7, 7, 7, 7, 7, 7, 7, 7, 7, 7, 7, 7, 7, 7, 7, 7, 7, 7, 7, 7, 7, 7, 7, 7, 7, 7, 7, 7, 7, 7, 7, 7, 7, 7, 7, 7, 7, 7, 7, 7, 7, 7, 7, 7, 7, 7, 7, 7, 8, 8, 8, 8, 8, 8, 8, 8, 8, 8, 8, 8, 8, 8, 8, 8, 8, 8, 8, 8, 8, 8, 8, 8, 8, 8, 8, 8, 8, 8, 8, 8, 8, 8, 8, 8, 8, 8, 8, 8, 8, 8, 8, 8, 8, 8, 8, 8, 8, 8, 8, 8, 8, 8, 8, 8, 8, 8, 8, 8, 8, 8, 8, 8, 8, 8, 8, 8, 8, 8, 8, 8, 8, 8, 8, 8, 8, 8, 8, 8, 8, 8, 8, 8, 8, 8, 8, 8, 8, 8, 8, 8, 8, 8, 8, 8, 8, 8, 8, 8, 8, 8, 8, 8, 8, 8, 8, 8, 8, 8, 8, 8, 8, 8, 8, 8, 8, 8, 8, 8, 8, 8, 8, 8, 8, 8, 8, 8]⟩

theorem lenTab_size : lenTab.size = 256 := by decide +kernel
theorem lenTab_at : ∀ y, y < 256 → byteAt lenTab y = (Go.Sort.bitsLen y : Int) := by decide +kernel
theorem bitsLen_le64 (x : Nat) (h : x < 18446744073709551616) : Go.Sort.bitsLen x ≤ 64 := (Go.Sort.bitsLen_le_iff x 64).2 h

theorem len64_spec (x : Nat) (h : x < 18446744073709551616) : Pf Tryz.prog math_bits_Len64.id [vu x] (vi (Go.Sort.bitsLen x)) := by
  refine DC.of math_bits_Len64.ok (by simp) ?_
  unfold math_bits_Len64.ir
  obtain ⟨y, m, hc, hb⟩ := len_step x 32
  obtain ⟨y', m', hc', hb'⟩ := len_step y 16
  obtain ⟨z, n, hd, hb2⟩ := len_step y' 8
  have hx := bitsLen_le64 x h
  refine vc_cut (fun s => gt s.sl 0 = vu x ∧ gt s.sl 2 = vi 0 ∧ s.hp = []) (by simp -dsimp) ?_
  rintro ⟨sl, hp, bs⟩ ⟨h0, h2, rfl⟩
  refine vc_cut (fun s => gt s.sl 0 = vu y ∧ gt s.sl 2 = vi m ∧ s.hp = []) ?_ ?_
  · rcases hc with ⟨c, hy, hm⟩ | ⟨c, hy, hm⟩
    · have i : (4294967296 : Int) ≤ x := by omega
      have e := fdivNs x 4294967296
      have mn : min 32 IntKind.u64.bits = 32 := rfl
      have e : Int.fdiv (x : Int) 4294967296 = (y : Int) := by rw [hy]; exact e
      subst hm
      clear hy
      simp -dsimp [h0, h2, i, e, mn]
    · have i : ¬ (4294967296 : Int) ≤ x := by omega
      subst hm
      rw [hy]
      simp -dsimp [h0, h2, i]
  rintro ⟨sl, hp, bs⟩ ⟨h0, h2, rfl⟩
  have ly : y < 4294967296 := by omega
  clear hc
  refine vc_cut (fun s => gt s.sl 0 = vu y' ∧ gt s.sl 2 = vi (m + m' : Nat) ∧ s.hp = []) ?_ ?_
  · rcases hc' with ⟨c, hy, hm⟩ | ⟨c, hy, hm⟩
    · have i : (65536 : Int) ≤ y := by omega
      have e := fdivNs y 65536
      have mn : min 16 IntKind.u64.bits = 16 := rfl
      have e : Int.fdiv (y : Int) 65536 = (y' : Int) := by rw [hy]; exact e
      subst hm
      have w : IntKind.i64.wrap ((m : Int) + 16) = (m : Int) + 16 := by rw [wrap64] <;> omega
      clear hy
      simp -dsimp [h0, h2, i, e, mn, w]
    · have i : ¬ (65536 : Int) ≤ y := by omega
      subst hm
      rw [hy]
      simp -dsimp [h0, h2, i]
  rintro ⟨sl, hp, bs⟩ ⟨h0, h2, rfl⟩
  have ly' : y' < 65536 := by omega
  clear hc'
  refine vc_cut (fun s => gt s.sl 0 = vu z ∧ gt s.sl 2 = vi (m + m' + n : Nat) ∧ s.hp = []) ?_ ?_
  · rcases hd with ⟨c, hy, hm⟩ | ⟨c, hy, hm⟩
    · have i : (256 : Int) ≤ y' := by omega
      have e := fdivNs y' 256
      have mn : min 8 IntKind.u64.bits = 8 := rfl
      have e : Int.fdiv (y' : Int) 256 = (z : Int) := by rw [hy]; exact e
      subst hm
      have w : IntKind.i64.wrap ((m : Int) + (m' : Int) + 8) = (m : Int) + (m' : Int) + 8 := by rw [wrap64] <;> omega
      clear hy
      simp -dsimp [h0, h2, i, e, mn, w]
    · have i : ¬ (256 : Int) ≤ y' := by omega
      subst hm
      rw [hy]
      simp -dsimp [h0, h2, i]
  rintro ⟨sl, hp, bs⟩ ⟨h0, h2, rfl⟩
  have lz : z < 256 := by omega
  have iz : (z : Int) < 256 := by omega
  clear hd
  have w8 : IntKind.u8.wrap (z : Int) = z := by simp [IntKind.wrap, IntKind.bits, IntKind.signed]; omega
  have t1 := lenTab_at z lz
  have t2 : IntKind.i64.wrap (Go.Sort.bitsLen z : Int) = (Go.Sort.bitsLen z : Int) := by rw [wrap64] <;> omega
  have t3 : IntKind.i64.wrap ((m : Int) + (m' : Int) + (n : Int) + (Go.Sort.bitsLen z : Int)) = (Go.Sort.bitsLen x : Int) := by rw [wrap64] <;> omega
  have ts := lenTab_size
  generalize hL : (ByteArray.mk _) = L
  have hL' : lenTab = L := hL
  rw [hL'] at t1 ts
  simp -dsimp [h0, h2, w8, t1, t2, t3, ts, iz, math_bits_Len64.rs, lz]

theorem len_spec (x : Nat) (h : x < 18446744073709551616) : Pf Tryz.prog math_bits_Len.id [vu x] (vi (Go.Sort.bitsLen x)) := by
  refine DC.of math_bits_Len.ok (by simp) ?_
  simp -dsimp [↓call_f, ↓vc_cond_false, math_bits_Len.ir]
  refine (len64_spec x h).use ?_
  simp -dsimp [math_bits_Len.rs]

theorem pow2_spec (x : Nat) (h : x < 4611686018427387904) : Pf Tryz.prog slices_nextPowerOfTwo.id [vi x] (vu (2 ^ Go.Sort.bitsLen x)) := by
  refine DC.of slices_nextPowerOfTwo.ok (by simp) ?_
  have w : IntKind.u64.wrap (x : Int) = x := by rw [wrapu64, Nat.mod_eq_of_lt (by omega)]
  have hk : Go.Sort.bitsLen x ≤ 62 := (Go.Sort.bitsLen_le_iff x 62).2 h
  have hp : 2 ^ Go.Sort.bitsLen x ≤ 2 ^ 62 := Nat.pow_le_pow_right (by omega) hk
  have w2 : IntKind.u64.wrap (((2 : Nat) ^ Go.Sort.bitsLen x : Nat) : Int) = ((2 ^ Go.Sort.bitsLen x : Nat) : Int) := by rw [wrapu64, Nat.mod_eq_of_lt (by omega)]
  have mn : min (Go.Sort.bitsLen x) IntKind.u64.bits = Go.Sort.bitsLen x := by show min (Go.Sort.bitsLen x) 64 = _; omega
  simp -dsimp [↓call_f, slices_nextPowerOfTwo.ir, w]
  refine (len_spec x (by omega)).use ?_
  simp -dsimp [slices_nextPowerOfTwo.rs, mn, ← Int.natCast_pow]
  exact w2
end Go.Abs.G


namespace Go.Abs.G
open Go.Proofs
attribute [local simp] I.vc sub merge place
set_option linter.unusedVariables false
set_option linter.unusedSimpArgs false

/-- k rounds of breakPatterns. -/
def bp (a len : Nat) (d : Array Int) : Nat → UInt64 × Array Int
  | 0 => (UInt64.ofNat len, d)
  | k + 1 => Go.Sort.breakStep a len (1 <<< Go.Sort.bitsLen len) (bp a len d k) (a + len / 4 * 2 - 1 + k)

theorem bp_3 (d : Array Int) (a b : Nat) (h : 8 ≤ b - a) : Go.Sort.breakPatterns d a b = (bp a (b - a) d 3).2 := by
  unfold Go.Sort.breakPatterns
  simp only []
  rw [if_pos h]
  rfl

theorem bp_size (a len : Nat) (d : Array Int) (k : Nat) : (bp a len d k).2.size = d.size := by
  induction k with
  | zero => rfl
  | succ k ih =>
    show (Go.Sort.swp _ _ _).size = _
    rw [swp_size]; exact ih

set_option maxHeartbeats 1000000 in
theorem break_spec (d : Array Int) (a b : Nat) (hab : a + 12 < b) (hb : b ≤ d.size) (hs : d.size ≤ 1152921504606846976) :
    DC Tryz.prog slices_breakPatternsOrdered_int.id [dataV d.size, vi a, vi b] [rowsO d] (fun r H => ∃ J, H = rowsO (Go.Sort.breakPatterns d a b) :: J) := by
  refine DC.of slices_breakPatternsOrdered_int.ok (by simp) ?_
  rw [bp_3 d a b (by omega)]
  obtain ⟨len, hl⟩ : ∃ len, b - a = len := ⟨_, rfl⟩
  rw [hl]
  obtain ⟨S, hS⟩ : ∃ S, (bp a len d 3).2 = S := ⟨_, rfl⟩
  rw [hS]
  unfold slices_breakPatternsOrdered_int.ir
  have w0 : IntKind.i64.wrap ((b : Int) - a) = (len : Int) := by rw [wrap64] <;> omega
  refine vc_cut (fun s => gt s.sl 0 = dataV d.size ∧ gt s.sl 1 = vi a ∧ gt s.sl 6 = vi len ∧ s.hp = [rowsO d]) (by simp -dsimp [w0]) ?_
  rintro ⟨sl, hp, bs⟩ ⟨h0, h1, h6, rfl⟩
  have i8 : (8 : Int) ≤ len := by omega
  refine vc_cut (fun s => gt s.sl 0 = dataV d.size ∧ gt s.sl 1 = vi a ∧ gt s.sl 6 = vi len ∧ gt s.sl 15 = .bool true ∧ s.hp = [rowsO d]) (by simp -dsimp [h0, h1, h6, i8]) ?_
  rintro ⟨sl, hp, bs⟩ ⟨h0, h1, h6, h15, rfl⟩
  rw [vc_cond_true (by simpa using h15)]
  have wl : IntKind.u64.wrap (len : Int) = len := by rw [wrapu64, Nat.mod_eq_of_lt (by omega)]
  refine vc_cut (fun s => gt s.sl 0 = dataV d.size ∧ gt s.sl 1 = vi a ∧ gt s.sl 6 = vi len ∧ gt s.sl 7 = .ptr 1 1 0 0 ∧ s.hp = [rowsO d, rndO len]) (by simp -dsimp [h0, h1, h6, wl]) ?_
  rintro ⟨sl, hp, bs⟩ ⟨h0, h1, h6, h7, rfl⟩
  obtain ⟨M, hM⟩ : ∃ M, M = 2 ^ Go.Sort.bitsLen len := ⟨_, rfl⟩
  have M1 : 1 ≤ M := by rw [hM]; exact Nat.two_pow_pos _
  have M2 : M ≤ 2 * len := by rw [hM]; exact Go.Sort.two_pow_bitsLen_le (by omega)
  refine vc_cut (fun s => gt s.sl 0 = dataV d.size ∧ gt s.sl 1 = vi a ∧ gt s.sl 6 = vi len ∧ gt s.sl 7 = .ptr 1 1 0 0 ∧ gt s.sl 8 = vu M ∧ s.hp = [rowsO d, rndO len]) ?_ ?_
  · have hp2 := pow2_spec len (by omega)
    rw [← hM] at hp2
    simp -dsimp [↓call_f, h0, h1, h6, h7]
    refine hp2.use ?_
    simp -dsimp [h0, h1, h6, h7]
  rintro ⟨sl, hp, bs⟩ ⟨h0, h1, h6, h7, h8, rfl⟩
  obtain ⟨i0, hi0⟩ : ∃ i0, a + len / 4 * 2 - 1 = i0 := ⟨_, rfl⟩
  have y1 : IntKind.i64.wrap ((len : Int) / 4) = (len : Int) / 4 := by rw [wrap64] <;> omega
  have y2 : IntKind.i64.wrap ((len : Int) / 4 * 2) = (len : Int) / 4 * 2 := by rw [wrap64] <;> omega
  have y3 : IntKind.i64.wrap ((a : Int) + (len : Int) / 4 * 2) = (i0 : Int) + 1 := by rw [wrap64] <;> omega
  have y4 : IntKind.i64.wrap ((i0 : Int) + 1 - 1) = (i0 : Int) := by rw [wrap64] <;> omega
  have y4' : IntKind.i64.wrap (i0 : Int) = (i0 : Int) := by rw [wrap64] <;> omega
  have y5 : IntKind.i64.wrap ((i0 : Int) + 1 + 1) = (i0 : Int) + 2 := by rw [wrap64] <;> omega
  refine vc_cut (fun s => gt s.sl 0 = dataV d.size ∧ gt s.sl 1 = vi a ∧ gt s.sl 6 = vi len ∧ gt s.sl 7 = .ptr 1 1 0 0 ∧ gt s.sl 8 = vu M ∧ gt s.sl 9 = vi i0 ∧ s.hp = [rowsO d, rndO len]) (by simp -dsimp [h0, h1, h6, h7, h8, y1, y2, y3, y4, y4']) ?_
  rintro ⟨sl, hp, bs⟩ ⟨h0, h1, h6, h7, h8, h9, rfl⟩
  have e0 : (bp a len d 0).1.toNat = len := by show (UInt64.ofNat len).toNat = len; simp; omega
  simp -dsimp [↓loop_f]
  refine WI.mono (Q := fun e st => e = .exit 0 ∧ ∃ o, st.hp = [rowsO S, o]) (WI.loop 2 (by simp) (fun st => ∃ k : Nat, k ≤ 3 ∧ gt st.sl 0 = dataV d.size ∧ gt st.sl 1 = vi a ∧ gt st.sl 6 = vi len ∧ gt st.sl 7 = .ptr 1 1 0 0 ∧ gt st.sl 8 = vu M ∧ gt st.sl 9 = vi (i0 + k : Nat) ∧ st.hp = [rowsO (bp a len d k).2, rndO (bp a len d k).1.toNat]) (fun st => ((i0 : Int) + 3 - (gt st.sl 9).num).toNat) ?_ ?_) ?_
  · exact ⟨0, by omega, by simp [h0], by simp [h1], by simp [h6], by simp [h7], by simp [h8], by simp [h9], by rw [e0]; rfl⟩
  · clear h0 h1 h6 h7 h8 h9 e0
    rintro ⟨sl, hp, bs⟩ ⟨k, hk, h0, h1, h6, h7, h8, h9, rfl⟩
    by_cases hk3 : k = 3
    · subst hk3
      have iN : ¬ (i0 : Int) + 3 ≤ (i0 : Int) + 2 := by omega
      simp -dsimp [slices_breakPatternsOrdered_int.b0, h0, h1, h6, h7, h8, h9, y1, y2, y3, y5, iN, hS]
    have hb1 : bp a len d (k + 1) = Go.Sort.breakStep a len (1 <<< Go.Sort.bitsLen len) (bp a len d k) (i0 + k) := by rw [← hi0]; rfl
    obtain ⟨st, hst⟩ : ∃ st, bp a len d k = st := ⟨_, rfl⟩
    obtain ⟨r, dk⟩ := st
    have zk : dk.size = d.size := by have := bp_size a len d k; rw [hst] at this; exact this
    rw [hst] at hb1 ⊢
    simp only
    have lr : r.toNat < 18446744073709551616 := r.toNat_lt
    have xs := xorshift_spec r.toNat lr
    obtain ⟨x, hx⟩ : ∃ x, Go.Sort.xorNext r = x := ⟨_, rfl⟩
    have ex : Go.Sort.xorNextN r.toNat = x.toNat := by rw [← Go.Sort.xorNext_toNat, hx]
    have lx : x.toNat < 18446744073709551616 := x.toNat_lt
    rw [ex] at xs
    obtain ⟨o0, ho0⟩ : ∃ o0, x.toNat &&& (M - 1) = o0 := ⟨_, rfl⟩
    have bo0 : o0 ≤ M - 1 := by rw [← ho0]; exact Nat.and_le_right
    obtain ⟨o1, ho1⟩ : ∃ o1, (if o0 ≥ len then o0 - len else o0) = o1 := ⟨_, rfl⟩
    have bo1 : o1 < len := by rw [← ho1]; split <;> omega
    have step : bp a len d (k + 1) = (x, Go.Sort.swp dk (i0 + k) (a + o1)) := by
      rw [hb1]
      unfold Go.Sort.breakStep
      simp only [hx]
      rw [Nat.shiftLeft_eq, Nat.one_mul, ← hM, ho0, ho1]
    have a1 := and64 x.toNat (M - 1) lx (by omega)
    rw [ho0] at a1
    have m1 : IntKind.u64.wrap ((M : Int) - 1) = ((M - 1 : Nat) : Int) := by
      rw [show (M : Int) - 1 = ((M - 1 : Nat) : Int) by omega, wrapu64, Nat.mod_eq_of_lt (by omega)]
    have wo : IntKind.i64.wrap (o0 : Int) = (o0 : Int) := by rw [wrap64] <;> omega
    obtain ⟨p, hp⟩ : ∃ p, i0 + k = p := ⟨_, rfl⟩
    obtain ⟨q, hq⟩ : ∃ q, a + o1 = q := ⟨_, rfl⟩
    rw [hp, hq] at step
    rw [hp] at h9
    have iY : (p : Int) ≤ (i0 : Int) + 2 := by omega
    obtain ⟨μ0, hμ⟩ : ∃ μ0, ((i0 : Int) + 3 - (gt sl 9).num).toNat = μ0 := ⟨_, rfl⟩
    have hμ' : μ0 = 3 - k := by rw [← hμ, h9]; show ((i0 : Int) + 3 - (p : Int)).toNat = 3 - k; omega
    simp only [hμ]
    clear hμ
    unfold slices_breakPatternsOrdered_int.b0
    refine vc_cut (fun st => gt st.sl 0 = dataV d.size ∧ gt st.sl 1 = vi a ∧ gt st.sl 6 = vi len ∧ gt st.sl 7 = .ptr 1 1 0 0 ∧ gt st.sl 8 = vu M ∧ gt st.sl 9 = vi p ∧ st.hp = [rowsO dk, rndO r.toNat]) (by simp -dsimp [h0, h1, h6, h7, h8, h9, y1, y2, y3, y5, iY]) ?_
    clear h0 h1 h6 h7 h8 h9
    rintro ⟨sl, hp', bs⟩ ⟨h0, h1, h6, h7, h8, h9, rfl⟩
    refine vc_cut (fun st => gt st.sl 0 = dataV d.size ∧ gt st.sl 1 = vi a ∧ gt st.sl 6 = vi len ∧ gt st.sl 7 = .ptr 1 1 0 0 ∧ gt st.sl 8 = vu M ∧ gt st.sl 9 = vi p ∧ st.hp = [rowsO (Go.Sort.swp dk p q), rndO x.toNat]) (vc_block_of ?_) ?_
    · refine vc_cut (fun st => gt st.sl 0 = dataV d.size ∧ gt st.sl 1 = vi a ∧ gt st.sl 6 = vi len ∧ gt st.sl 7 = .ptr 1 1 0 0 ∧ gt st.sl 8 = vu M ∧ gt st.sl 9 = vi p ∧ gt st.sl 10 = vi o0 ∧ st.hp = [rowsO dk, rndO x.toNat]) ?_ ?_
      · simp -dsimp [↓callm_fn, h0, h1, h6, h7, h8, h9]
        refine DC.mono xs fun rr H ⟨hr, hH⟩ => ?_
        subst hr hH
        simp -dsimp [-BitVec.toNat_and, h0, h1, h6, h7, h8, h9, m1, a1, wo]
      clear h0 h1 h6 h7 h8 h9
      rintro ⟨sl, hp', bs⟩ ⟨h0, h1, h6, h7, h8, h9, h10, rfl⟩
      refine vc_cut (fun st => gt st.sl 0 = dataV d.size ∧ gt st.sl 1 = vi a ∧ gt st.sl 6 = vi len ∧ gt st.sl 7 = .ptr 1 1 0 0 ∧ gt st.sl 8 = vu M ∧ gt st.sl 9 = vi p ∧ gt st.sl 10 = vi o1 ∧ st.hp = [rowsO dk, rndO x.toNat]) ?_ ?_
      · by_cases hc : o0 ≥ len
        · rw [if_pos hc] at ho1
          have ic : (len : Int) ≤ o0 := by omega
          have ws : IntKind.i64.wrap ((o0 : Int) - len) = (o1 : Int) := by rw [wrap64] <;> omega
          simp -dsimp [h0, h1, h6, h7, h8, h9, h10, ic, ws]
        · rw [if_neg hc] at ho1
          have ic : ¬ (len : Int) ≤ o0 := by omega
          subst ho1
          simp -dsimp [h0, h1, h6, h7, h8, h9, h10, ic]
      clear h0 h1 h6 h7 h8 h9 h10
      rintro ⟨sl, hp', bs⟩ ⟨h0, h1, h6, h7, h8, h9, h10, rfl⟩
      have wq : IntKind.i64.wrap ((a : Int) + o1) = (q : Int) := by rw [wrap64] <;> omega
      have kp : p < dk.size := by omega
      have kq : q < dk.size := by omega
      have kp' : p < d.size := by omega
      have kq' : q < d.size := by omega
      have hsw := swp_rows dk kp kq
      by_cases hpq : p = q
      · subst hpq
        have hpp : Go.Sort.swp dk p p = dk := by
          apply Array.toList_inj.1
          simp [Go.Sort.swp, get_bang dk kp]
          have := @List.set_getElem_self _ dk.toList p (by simpa using kp)
          simpa using this
        have hsw' : ((dk.toList.map fun n => [V.a (.int .i64 n)]).set p [V.a (.int .i64 dk[p])]) = dk.toList.map fun n => [V.a (.int .i64 n)] := by
          rw [hpp] at hsw; rw [List.set_set] at hsw; exact hsw
        rw [hpp]
        simp -dsimp [h0, h1, h6, h7, h8, h9, h10, wq, kp', kq', zk, List.getElem_set, hsw']
      · simp -dsimp [h0, h1, h6, h7, h8, h9, h10, wq, kp', kq', zk, hpq, List.getElem_set, hsw]
    clear h0 h1 h6 h7 h8 h9
    rintro ⟨sl, hp', bs⟩ ⟨h0, h1, h6, h7, h8, h9, rfl⟩
    have wn : IntKind.i64.wrap ((p : Int) + 1) = (p : Int) + 1 := by rw [wrap64] <;> omega
    simp -dsimp [h0, h1, h6, h7, h8, h9, wn]
    refine ⟨⟨k + 1, by omega, by omega, ?_⟩, by omega⟩
    rw [step]
    exact ⟨rfl, rfl⟩
  · rintro e ⟨sl, hp, bs⟩ ⟨rfl, o, rfl⟩
    simp -dsimp [slices_breakPatternsOrdered_int.rs]
end Go.Abs.G


namespace Go.Abs.G
open Go.Proofs
attribute [local simp] I.vc sub merge place
set_option linter.unusedVariables false
set_option linter.unusedSimpArgs false

theorem swo_int : Go.Sort.SWO Go.Sort.ltInt where
  irrefl x := by simp [Go.Sort.ltInt]
  trans x y z h1 h2 := by simp [Go.Sort.ltInt] at *; omega
  ntrans x y z h1 h2 := by simp [Go.Sort.ltInt] at *; omega

/-- Within [a, b) sorted, the rest as it was. -/
def Srt (a b : Nat) (d d' : Array Int) : Prop := Go.Sort.PermIn a b d d' ∧ Go.Sort.SortedIn Go.Sort.ltInt a b d'

/-- The row comes first. -/
def At0 (H : Heap) (d : Array Int) : Prop := ∃ J, H = rowsO d :: J
theorem At0.mk (d : Array Int) (J : Heap) : At0 (rowsO d :: J) d := ⟨J, rfl⟩

abbrev pdqS (n a b l : Nat) (w p : Bool) (st : St) : Prop := gt st.sl 0 = dataV n ∧ gt st.sl 1 = vi a ∧ gt st.sl 2 = vi b ∧ gt st.sl 3 = vi l ∧ gt st.sl 8 = .bool w ∧ gt st.sl 9 = .bool p

def pdqI (n m a b : Nat) (d : Array Int) (st : St) : Prop := ∃ (a1 b1 l1 : Nat) (w p : Bool) (d1 : Array Int), a1 ≤ b1 ∧ b1 ≤ n ∧ b1 - a1 ≤ m ∧ d1.size = n ∧ l1 ≤ 64 ∧ pdqS n a1 b1 l1 w p st ∧ st.hp = [rowsO d1] ∧ Go.Sort.Below Go.Sort.ltInt a1 b1 d1 ∧ ∀ R, Go.Sort.PermIn a1 b1 d1 R → Go.Sort.SortedIn Go.Sort.ltInt a1 b1 R → Srt a b d R
theorem pdqI.mk {n m a b : Nat} {d : Array Int} {st : St} (a1 b1 l1 : Nat) (w p : Bool) (d1 : Array Int) (h1 : a1 ≤ b1) (h2 : b1 ≤ n) (h3 : b1 - a1 ≤ m) (h4 : d1.size = n) (h5 : l1 ≤ 64) (h6 : pdqS n a1 b1 l1 w p st) (h7 : st.hp = [rowsO d1])
    (h8 : Go.Sort.Below Go.Sort.ltInt a1 b1 d1) (h9 : ∀ R, Go.Sort.PermIn a1 b1 d1 R → Go.Sort.SortedIn Go.Sort.ltInt a1 b1 R → Srt a b d R) : pdqI n m a b d st := ⟨a1, b1, l1, w, p, d1, h1, h2, h3, h4, h5, h6, h7, h8, h9⟩

theorem hintN_inj (h : Go.Sort.Hint) : (hintN h = 2 ↔ h = .decreasing) ∧ (hintN h = 1 ↔ h = .increasing) := by cases h <;> simp [hintN]

set_option maxHeartbeats 2000000 in
theorem pdq_spec : ∀ (m : Nat) (d : Array Int) (a b limit : Nat), b - a ≤ m → a ≤ b → b ≤ d.size → d.size ≤ 1152921504606846976 → limit ≤ 64 → Go.Sort.Below Go.Sort.ltInt a b d →
    DC Tryz.prog slices_pdqsortOrdered_int.id [dataV d.size, vi a, vi b, vi limit] [rowsO d] (fun r H => ∃ d', At0 H d' ∧ Srt a b d d') := by
  intro m
  induction m using Nat.strongRecOn with
  | _ m IH =>
  intro d a b limit hm hab hb hs hlim hB
  refine DC.of slices_pdqsortOrdered_int.ok (by simp) ?_
  obtain ⟨n, hn⟩ : ∃ n, d.size = n := ⟨_, rfl⟩
  rw [hn] at hb hs ⊢
  unfold slices_pdqsortOrdered_int.ir
  refine vc_cut (fun s => gt s.sl 0 = dataV n ∧ gt s.sl 1 = vi a ∧ gt s.sl 2 = vi b ∧ gt s.sl 3 = vi limit ∧ gt s.sl 8 = .bool true ∧ s.hp = [rowsO d]) (by simp -dsimp) ?_
  rintro ⟨sl, hp, bs⟩ ⟨h0, h1, h2, h3, h8, rfl⟩
  refine vc_cut (fun s => pdqS n a b limit true true s ∧ s.hp = [rowsO d]) (by simp -dsimp [pdqS, h0, h1, h2, h3, h8]) ?_
  clear h0 h1 h2 h3 h8
  rintro ⟨sl, hp, bs⟩ ⟨h, rfl⟩
  simp -dsimp [↓loop_f]
  refine WI.mono (Q := fun e st => e = .ret ∧ ∃ d', At0 st.hp d' ∧ Srt a b d d') (WI.loop 1 (by simp)
    (pdqI n m a b d)
    (fun st => ((gt st.sl 2).num - (gt st.sl 1).num).toNat) ?_ ?_) ?_
  · exact .mk a b limit true true d hab hb hm hn hlim ⟨by simp [h.1], by simp [h.2.1], by simp [h.2.2.1], by simp [h.2.2.2.1], by simp [h.2.2.2.2.1], by simp [h.2.2.2.2.2]⟩ rfl hB fun R h1 h2 => ⟨h1, h2⟩
  · clear h hB hm hab hb hn hlim
    rintro ⟨sl, hp, bs⟩ ⟨a1, b1, l1, w, p, d1, hab, hb, hm, hn, hlim, ⟨h0, h1, h2, h3, h8, h9⟩, rfl, hB, hG⟩
    obtain ⟨len, hl⟩ : ∃ len, b1 - a1 = len := ⟨_, rfl⟩
    have w0 : IntKind.i64.wrap ((b1 : Int) - a1) = (len : Int) := by rw [wrap64] <;> omega
    obtain ⟨μ0, hμ⟩ : ∃ μ0, ((gt sl 2).num - (gt sl 1).num).toNat = μ0 := ⟨_, rfl⟩
    have hμ' : μ0 = len := by rw [← hμ, h1, h2]; show ((b1 : Int) - (a1 : Int)).toNat = len; omega
    simp only [hμ]
    clear hμ
    unfold slices_pdqsortOrdered_int.b0
    refine vc_block_of (vc_cut (fun st => pdqS n a1 b1 l1 w p st ∧ gt st.sl 10 = vi len ∧ st.hp = [rowsO d1]) (by simp -dsimp [pdqS, h0, h1, h2, h3, h8, h9, w0]) ?_)
    clear h0 h1 h2 h3 h8 h9
    rintro ⟨sl, hp, bs⟩ ⟨⟨h0, h1, h2, h3, h8, h9⟩, h10, rfl⟩
    by_cases h12 : len ≤ 12
    · have i12 : (len : Int) ≤ 12 := by omega
      have sp := insertion_spec d1 a1 b1 (by omega) (by omega) (by omega)
      have st1 := Go.Sort.insertionSort_holds (lt := Go.Sort.ltInt) swo_int d1 a1 b1 hab (by omega)
      rw [hn] at sp
      refine vc_cut (fun _ => False) ?_ (fun _ h => h.elim)
      simp -dsimp [↓callm_fn, h0, h1, h2, h3, h8, h9, h10, i12]
      refine DC.mono sp fun rr H hH => ?_
      subst hH
      simp -dsimp [h0, h1, h2, h3, h8, h9, h10]
      exact ⟨_, .mk _ _, hG _ st1.1 st1.2⟩
    have i12 : ¬ (len : Int) ≤ 12 := by omega
    refine vc_cut (fun st => pdqS n a1 b1 l1 w p st ∧ gt st.sl 10 = vi len ∧ st.hp = [rowsO d1]) (by simp -dsimp [pdqS, h0, h1, h2, h3, h8, h9, h10, i12]) ?_
    clear h0 h1 h2 h3 h8 h9 h10
    rintro ⟨sl, hp, bs⟩ ⟨⟨h0, h1, h2, h3, h8, h9⟩, h10, rfl⟩
    by_cases hl0 : l1 = 0
    · have i0 : (l1 : Int) = 0 := by omega
      have sp := heap_spec d1 a1 b1 (by omega) (by omega) (by omega)
      have st1 := Go.Sort.heapSort_holds (lt := Go.Sort.ltInt) swo_int d1 a1 b1 hab (by omega)
      rw [hn] at sp
      refine vc_cut (fun _ => False) ?_ (fun _ h => h.elim)
      simp -dsimp [↓callm_fn, h0, h1, h2, h3, h8, h9, h10, i0, hl0]
      refine DC.mono sp fun rr H hH => ?_
      subst hH
      simp -dsimp [h0, h1, h2, h3, h8, h9, h10]
      exact ⟨_, .mk _ _, hG _ st1.1 st1.2⟩
    have i0 : ¬ (l1 : Int) = 0 := by omega
    refine vc_cut (fun st => pdqS n a1 b1 l1 w p st ∧ gt st.sl 10 = vi len ∧ st.hp = [rowsO d1]) (by simp -dsimp [pdqS, h0, h1, h2, h3, h8, h9, h10, i0, hl0]) ?_
    clear h0 h1 h2 h3 h8 h9 h10
    rintro ⟨sl, hp, bs⟩ ⟨⟨h0, h1, h2, h3, h8, h9⟩, h10, rfl⟩
    -- breakPatterns
    refine vc_cut (fun st => ∃ (l2 : Nat) (d2 : Array Int), l2 ≤ 64 ∧ Go.Sort.PermIn a1 b1 d1 d2 ∧ pdqS n a1 b1 l2 w p st ∧ gt st.sl 10 = vi len ∧ At0 st.hp d2) ?_ ?_
    · cases w with
      | true =>
        simp -dsimp [h0, h1, h2, h3, h8, h9, h10, pdqS]
        exact ⟨l1, hlim, d1, Go.Sort.permIn_refl _ _ _, by omega, .mk _ _⟩
      | false =>
        have sp := break_spec d1 a1 b1 (by omega) (by omega) (by omega)
        rw [hn] at sp
        have wl : IntKind.i64.wrap ((l1 : Int) - 1) = ((l1 - 1 : Nat) : Int) := by rw [wrap64] <;> omega
        simp -dsimp [↓callm_fn, h0, h1, h2, h3, h8, h9, h10]
        refine DC.mono sp fun rr H ⟨J, hH⟩ => ?_
        subst hH
        simp -dsimp [h0, h1, h2, h3, h8, h9, h10, wl, pdqS]
        exact ⟨l1 - 1, by omega, _, Go.Sort.breakPatterns_holds _ _ _ hab (by omega), by omega, .mk _ _⟩
    clear h0 h1 h2 h3 h8 h9 h10
    rintro ⟨sl, hp, bs⟩ ⟨l2, d2, hl2, hp2, ⟨h0, h1, h2, h3, h8, h9⟩, h10, J, rfl⟩
    have z2 : d2.size = n := by rw [hp2.1, hn]
    have B2 := hB.perm (by omega) hp2
    -- choosePivot
    have cr := Go.Sort.choosePivot_holds Go.Sort.ltInt d2 a1 b1 (by omega)
    have cs := choosePivot_spec d2 a1 b1 (by omega) (by omega) (by omega)
    obtain ⟨c, hc⟩ : ∃ c, Go.Sort.choosePivot Go.Sort.ltInt d2 a1 b1 = c := ⟨_, rfl⟩
    rw [hc] at cr cs
    rw [z2] at cs
    obtain ⟨pv, hint⟩ := c
    refine vc_cut (fun st => pdqS n a1 b1 l2 w p st ∧ gt st.sl 10 = vi len ∧ gt st.sl 11 = vi pv ∧ gt st.sl 12 = vi (hintN hint) ∧ At0 st.hp d2) ?_ ?_
    · simp -dsimp [↓callm_fn, h0, h1, h2, h3, h8, h9, h10]
      refine DC.mono cs fun rr H ⟨hr, o, hH⟩ => ?_
      subst hr hH
      simp -dsimp [h0, h1, h2, h3, h8, h9, h10, pdqS]
      exact .mk _ _
    clear h0 h1 h2 h3 h8 h9 h10
    rintro ⟨sl, hp, bs⟩ ⟨⟨h0, h1, h2, h3, h8, h9⟩, h10, h11, h12', J1, rfl⟩
    simp only at cr
    -- reverse
    refine vc_cut (fun st => ∃ (d3 : Array Int) (pv' hint' : Nat), Go.Sort.PermIn a1 b1 d1 d3 ∧ a1 ≤ pv' ∧ pv' < b1 ∧ pdqS n a1 b1 l2 w p st ∧ gt st.sl 10 = vi len ∧ gt st.sl 11 = vi pv' ∧ gt st.sl 12 = vi hint' ∧ At0 st.hp d3) ?_ ?_
    · by_cases hd : hint = .decreasing
      · have i2 : hintN hint = 2 := by rw [hd]; rfl
        have sp := reverse_spec d2 a1 b1 (by omega) (by omega) (by omega)
        rw [z2] at sp
        have v1 : IntKind.i64.wrap ((b1 : Int) - 1) = (b1 : Int) - 1 := by rw [wrap64] <;> omega
        have v2 : IntKind.i64.wrap ((pv : Int) - a1) = (pv : Int) - a1 := by rw [wrap64] <;> omega
        have v3 : IntKind.i64.wrap ((b1 : Int) - 1 - ((pv : Int) - a1)) = (((b1 - 1) - (pv - a1) : Nat) : Int) := by rw [wrap64] <;> omega
        rw [i2] at h12'
        simp -dsimp [↓callm_fn, h0, h1, h2, h3, h8, h9, h10, h11, h12']
        refine DC.mono sp fun rr H hH => ?_
        subst hH
        obtain ⟨q, hq⟩ : ∃ q : Nat, (b1 - 1) - (pv - a1) = q := ⟨_, rfl⟩
        rw [hq] at v3
        simp -dsimp [h0, h1, h2, h3, h8, h9, h10, h11, v1, v2, v3, pdqS]
        exact ⟨_, Go.Sort.permIn_trans _ _ _ _ _ hp2 (Go.Sort.reverseRange_holds d2 a1 b1 hab (by omega)), q, by omega, by omega, by omega, ⟨1, rfl⟩, .mk _ _⟩
      · have i2 : ¬ hintN hint = 2 := fun h => hd ((hintN_inj hint).1.1 h)
        have hnn : ∃ k : Nat, hintN hint = k := by
          cases hint
          · exact ⟨0, rfl⟩
          · exact ⟨1, rfl⟩
          · exact ⟨2, rfl⟩
        obtain ⟨k, hk⟩ := hnn
        rw [hk] at h12' i2
        have i2 : ¬ (k : Int) = 2 := i2
        simp -dsimp [h0, h1, h2, h3, h8, h9, h10, h11, h12', i2, pdqS]
        exact ⟨d2, hp2, pv, by omega, by omega, by omega, ⟨k, by omega⟩, .mk _ _⟩
    clear h0 h1 h2 h3 h8 h9 h10 h11 h12' cs hc cr
    rintro ⟨sl, hp, bs⟩ ⟨d3, pv', hint', hp3, hpa, hpb, ⟨h0, h1, h2, h3, h8, h9⟩, h10, h11, h12', J3, rfl⟩
    have z3 : d3.size = n := by rw [hp3.1, hn]
    have B3 := hB.perm (by omega) hp3
    -- partialInsertionSort
    refine vc_cut (fun st => ∃ (d4 : Array Int), Go.Sort.PermIn a1 b1 d1 d4 ∧ pdqS n a1 b1 l2 w p st ∧ gt st.sl 10 = vi len ∧ gt st.sl 11 = vi pv' ∧ At0 st.hp d4) ?_ ?_
    · by_cases hc : (w = true ∧ p = true) ∧ hint' = 1
      · obtain ⟨⟨rfl, rfl⟩, rfl⟩ := hc
        have sp := pins_spec d3 a1 b1 (by omega) (by omega) (by omega)
        have st1 := Go.Sort.partialInsertionSort_holds (lt := Go.Sort.ltInt) swo_int d3 a1 b1 (by omega) (by omega) B3
        rw [z3] at sp
        simp -dsimp [↓callm_fn, h0, h1, h2, h3, h8, h9, h10, h11, h12']
        refine DC.mono sp fun rr H ⟨hr, hH⟩ => ?_
        subst hr hH
        obtain ⟨⟨d4, ok⟩, he⟩ : ∃ x, Go.Sort.partialInsertionSort Go.Sort.ltInt d3 a1 b1 = x := ⟨_, rfl⟩
        rw [he] at st1 ⊢
        cases ok with
        | true =>
          simp -dsimp [h0, h1, h2, h3, h8, h9, h10, h11]
          exact ⟨d4, .mk _ _, hG _ (Go.Sort.permIn_trans _ _ _ _ _ hp3 st1.1) (st1.2 rfl)⟩
        | false =>
          simp -dsimp [h0, h1, h2, h3, h8, h9, h10, h11, pdqS]
          exact ⟨d4, Go.Sort.permIn_trans _ _ _ _ _ hp3 st1.1, .mk _ _⟩
      · by_cases hw : w = true
        · subst hw
          by_cases hpp : p = true
          · subst hpp
            have i1 : ¬ (hint' : Int) = 1 := by have : ¬ hint' = 1 := fun h => hc ⟨⟨rfl, rfl⟩, h⟩; omega
            simp -dsimp [h0, h1, h2, h3, h8, h9, h10, h11, h12', i1, pdqS]
            exact ⟨d3, hp3, .mk _ _⟩
          · have hpp : p = false := by simpa using hpp
            subst hpp
            simp -dsimp [h0, h1, h2, h3, h8, h9, h10, h11, h12', pdqS]
            exact ⟨d3, hp3, .mk _ _⟩
        · have hw : w = false := by simpa using hw
          subst hw
          simp -dsimp [h0, h1, h2, h3, h8, h9, h10, h11, h12', pdqS]
          exact ⟨d3, hp3, .mk _ _⟩
    clear h0 h1 h2 h3 h8 h9 h10 h11 h12' hp3 z3 B3 J3 B2 hp2 z2 J1 J
    rintro ⟨sl, hp, bs⟩ ⟨d4, hp4, ⟨h0, h1, h2, h3, h8, h9⟩, h10, h11, J4, rfl⟩
    have z4 : d4.size = n := by rw [hp4.1, hn]
    have B4 := hB.perm (by omega) hp4
    have hG4 : ∀ R, Go.Sort.PermIn a1 b1 d4 R → Go.Sort.SortedIn Go.Sort.ltInt a1 b1 R → Srt a b d R := fun R h1 h2 => hG R (Go.Sort.permIn_trans _ _ _ _ _ hp4 h1) h2
    clear hG hB hp4 hn d1 d3 d2
    -- equal
    have kp : pv' < d4.size := by omega
    have kp' : pv' < n := by omega
    refine vc_cut (fun st => pdqS n a1 b1 l2 w p st ∧ gt st.sl 10 = vi len ∧ gt st.sl 11 = vi pv' ∧ st.hp = rowsO d4 :: J4) ?_ ?_
    · by_cases ha0 : 0 < a1
      · have i1 : (0 : Int) < a1 := by omega
        have v1 : IntKind.i64.wrap ((a1 : Int) - 1) = ((a1 - 1 : Nat) : Int) := by rw [wrap64] <;> omega
        have k1 : a1 - 1 < d4.size := by omega
        have k1' : a1 - 1 < n := by omega
        obtain ⟨e, he⟩ : ∃ e, a1 - 1 = e := ⟨_, rfl⟩
        rw [he] at v1 k1 k1'
        by_cases hlt : Go.Sort.ltInt d4[e] d4[pv'] = true
        · simp -dsimp [↓call_f, h0, h1, h2, h3, h8, h9, h10, h11, i1, ha0, v1, k1', kp', z4]
          refine (less_spec d4[e] d4[pv']).use ?_
          simp -dsimp [hlt, h0, h1, h2, h3, h8, h9, h10, h11, pdqS]
        · have hlt : Go.Sort.ltInt d4[e] d4[pv'] = false := by simpa using hlt
          have sp := partEq_spec d4 a1 b1 pv' hpa hpb (by omega) (by omega) (by omega)
          obtain ⟨⟨mid, d5⟩, hx⟩ : ∃ x, Go.Sort.partitionEqual Go.Sort.ltInt d4 a1 b1 pv' = x := ⟨_, rfl⟩
          have rq := Go.Sort.round_eq swo_int (Go.Sort.partitionEqual_holds Go.Sort.ltInt) ha0 hpa hpb (by omega) B4 (by rw [he, get_bang d4 k1, get_bang d4 kp]; exact hlt) hx
          rw [hx, z4] at sp
          simp -dsimp [↓call_f, h0, h1, h2, h3, h8, h9, h10, h11, i1, ha0, v1, k1', kp', z4]
          refine (less_spec d4[e] d4[pv']).use ?_
          simp -dsimp [↓callm_fn, hlt, h0, h1, h2, h3, h8, h9, h10, h11]
          refine DC.mono sp fun rr H ⟨hr, hH⟩ => ?_
          subst hr hH
          simp -dsimp [h0, h1, h2, h3, h8, h9, h10, h11]
          obtain ⟨r1, r2, r3, r4, r5⟩ := rq
          exact ⟨.mk mid b1 l2 w p d5 (by omega) (by omega) (by omega) (by omega) hl2 ⟨by simp, by simp, by simp, by simp, by simp, by simp⟩ (by simp) r4 fun R h1 h2 => hG4 R (r5 R h1 h2).1 (r5 R h1 h2).2, by omega⟩
      · have i1 : ¬ (0 : Int) < a1 := by omega
        simp -dsimp [h0, h1, h2, h3, h8, h9, h10, h11, i1, ha0, pdqS]
    clear h0 h1 h2 h3 h8 h9 h10 h11
    rintro ⟨sl, hp, bs⟩ ⟨⟨h0, h1, h2, h3, h8, h9⟩, h10, h11, rfl⟩
    -- partition
    have sp := partition_spec d4 a1 b1 pv' hpa hpb (by omega) (by omega) (by omega)
    obtain ⟨⟨mid, al, d5⟩, hx⟩ : ∃ x, Go.Sort.partition Go.Sort.ltInt d4 a1 b1 pv' = x := ⟨_, rfl⟩
    obtain ⟨r1, r2, r3, r4, r5, r6, r7⟩ := Go.Sort.round_part swo_int (Go.Sort.partition_holds Go.Sort.ltInt) hpa hpb (by omega) B4 hx
    rw [hx, z4] at sp
    have z5 : d5.size = n := by omega
    refine vc_cut (fun st => gt st.sl 0 = dataV n ∧ gt st.sl 1 = vi a1 ∧ gt st.sl 2 = vi b1 ∧ gt st.sl 3 = vi l2 ∧ gt st.sl 10 = vi len ∧ gt st.sl 14 = vi mid ∧ gt st.sl 15 = .bool al ∧ At0 st.hp d5) ?_ ?_
    · simp -dsimp [↓callm_fn, h0, h1, h2, h3, h8, h9, h10, h11]
      refine DC.mono sp fun rr H ⟨hr, hH⟩ => ?_
      subst hr hH
      simp -dsimp [h0, h1, h2, h3, h8, h9, h10, h11]
      exact .mk _ _
    clear h0 h1 h2 h3 h8 h9 h10 h11
    rintro ⟨sl, hp, bs⟩ ⟨h0, h1, h2, h3, h10, h14, h15, J5, rfl⟩
    refine vc_cut (fun st => gt st.sl 0 = dataV n ∧ gt st.sl 1 = vi a1 ∧ gt st.sl 2 = vi b1 ∧ gt st.sl 3 = vi l2 ∧ gt st.sl 9 = .bool al ∧ gt st.sl 10 = vi len ∧ gt st.sl 14 = vi mid ∧ st.hp = rowsO d5 :: J5) (by simp -dsimp [h0, h1, h2, h3, h10, h14, h15]) ?_
    clear h0 h1 h2 h3 h10 h14 h15
    rintro ⟨sl, hp, bs⟩ ⟨h0, h1, h2, h3, h9, h10, h14, rfl⟩
    obtain ⟨L, hL⟩ : ∃ L, mid - a1 = L := ⟨_, rfl⟩
    obtain ⟨Rr, hRr⟩ : ∃ L, b1 - mid = L := ⟨_, rfl⟩
    have u1 : IntKind.i64.wrap ((mid : Int) - a1) = (L : Int) := by rw [wrap64] <;> omega
    have u2 : IntKind.i64.wrap ((b1 : Int) - mid) = (Rr : Int) := by rw [wrap64] <;> omega
    refine vc_cut (fun st => gt st.sl 0 = dataV n ∧ gt st.sl 1 = vi a1 ∧ gt st.sl 2 = vi b1 ∧ gt st.sl 3 = vi l2 ∧ gt st.sl 9 = .bool al ∧ gt st.sl 10 = vi len ∧ gt st.sl 14 = vi mid ∧ gt st.sl 16 = vi L ∧ gt st.sl 17 = vi Rr ∧ st.hp = rowsO d5 :: J5) (by simp -dsimp [h0, h1, h2, h3, h9, h10, h14, u1, u2]) ?_
    clear h0 h1 h2 h3 h9 h10 h14
    rintro ⟨sl, hp, bs⟩ ⟨h0, h1, h2, h3, h9, h10, h14, h16, h17, rfl⟩
    have u3 : IntKind.i64.wrap ((len : Int) / 8) = ((len / 8 : Nat) : Int) := by rw [wrap64] <;> omega
    obtain ⟨e8, he8⟩ : ∃ e8, len / 8 = e8 := ⟨_, rfl⟩
    rw [he8] at u3
    refine vc_cut (fun st => gt st.sl 0 = dataV n ∧ gt st.sl 1 = vi a1 ∧ gt st.sl 2 = vi b1 ∧ gt st.sl 3 = vi l2 ∧ gt st.sl 9 = .bool al ∧ gt st.sl 14 = vi mid ∧ gt st.sl 16 = vi L ∧ gt st.sl 17 = vi Rr ∧ gt st.sl 18 = vi e8 ∧ st.hp = rowsO d5 :: J5) (by simp -dsimp [h0, h1, h2, h3, h9, h10, h14, h16, h17, u3]) ?_
    clear h0 h1 h2 h3 h9 h10 h14 h16 h17
    rintro ⟨sl, hp, bs⟩ ⟨h0, h1, h2, h3, h9, h14, h16, h17, h18, rfl⟩
    have v4 : IntKind.i64.wrap ((mid : Int) + 1) = ((mid + 1 : Nat) : Int) := by rw [wrap64] <;> omega
    have v4' : IntKind.i64.wrap ((mid : Int) + 1) = (mid : Int) + 1 := by rw [wrap64] <;> omega
    by_cases hLR : L < Rr
    · have iLR : (L : Int) < Rr := by omega
      have ih := IH (mid - a1) (by omega) d5 a1 mid l2 (Nat.le_refl _) r1 (by omega) (by omega) hl2 r4
      rw [z5] at ih
      simp -dsimp [↓callm_fn, h0, h1, h2, h3, h9, h14, h16, h17, h18, iLR]
      refine DC.mono ih fun rr H ⟨dL, ⟨K, hH⟩, hS⟩ => ?_
      subst hH
      obtain ⟨q1, q2⟩ := r6 dL hS.1 hS.2
      have zL : dL.size = n := by rw [hS.1.1, z5]
      simp -dsimp [h0, h1, h2, h3, h9, h14, h16, h17, h18, v4']
      exact ⟨.mk (mid + 1) b1 l2 (decide (e8 ≤ L)) al dL (by omega) (by omega) (by omega) zL hl2 ⟨by simp, by simp, by simp, by simp, by simp, by simp⟩ (by simp) q1 fun R h1 h2 => hG4 R (q2 R h1 h2).1 (q2 R h1 h2).2, by omega⟩
    · have iLR : ¬ (L : Int) < Rr := by omega
      have ih := IH (b1 - (mid + 1)) (by omega) d5 (mid + 1) b1 l2 (Nat.le_refl _) (by omega) (by omega) (by omega) hl2 r5
      rw [z5] at ih
      simp -dsimp [↓callm_fn, h0, h1, h2, h3, h9, h14, h16, h17, h18, iLR, v4']
      refine DC.mono ih fun rr H ⟨dL, ⟨K, hH⟩, hS⟩ => ?_
      subst hH
      obtain ⟨q1, q2⟩ := r7 dL hS.1 hS.2
      have zL : dL.size = n := by rw [hS.1.1, z5]
      simp -dsimp [h0, h1, h2, h3, h9, h14, h16, h17, h18, v4']
      exact ⟨.mk a1 mid l2 (decide (e8 ≤ Rr)) al dL (by omega) (by omega) (by omega) zL hl2 ⟨by simp, by simp, by simp, by simp, by simp, by simp⟩ (by simp) q1 fun R h1 h2 => hG4 R (q2 R h1 h2).1 (q2 R h1 h2).2, by omega⟩
  · rintro e ⟨sl, hp, bs⟩ ⟨rfl, d', h, hS⟩
    simp -dsimp [slices_pdqsortOrdered_int.rs]
    exact ⟨d', h, hS⟩

theorem sort_spec (d : Array Int) (hs : d.size ≤ 1152921504606846976) :
    DC Tryz.prog slices_Sort_Lint_int.id [dataV d.size] [rowsO d] (fun r H => r.ids = [] ∧ At0 H (d.toList.mergeSort (fun x y => decide (x ≤ y))).toArray) := by
  refine DC.of slices_Sort_Lint_int.ok (by simp) ?_
  have lb := bitsLen_le64 d.size (by omega)
  have wl : IntKind.u64.wrap (d.size : Int) = d.size := by rw [wrapu64, Nat.mod_eq_of_lt (by omega)]
  simp -dsimp [↓call_f, slices_Sort_Lint_int.ir, wl]
  refine (len_spec d.size (by omega)).use ?_
  simp -dsimp [↓callm_fn]
  refine DC.mono (pdq_spec d.size d 0 d.size (Go.Sort.bitsLen d.size) (by omega) (by omega) (by omega) hs lb (Or.inl rfl)) fun rr H ⟨d', ⟨J, hH⟩, hS⟩ => ?_
  subst hH
  have e := Go.Sort.sorted_unique_holds (lt := Go.Sort.ltInt) swo_int (fun x y h1 h2 => by simp [Go.Sort.ltInt] at *; omega) d d' hS.1 (by rw [← hS.1.1] at *; exact hS.2)
  have e2 : (fun x y : Int => !Go.Sort.ltInt y x) = fun x y => decide (x ≤ y) := by
    funext x y
    simp only [Go.Sort.ltInt]
    by_cases h : x ≤ y
    · have : ¬ y < x := by omega
      simp [h, this]
    · have : y < x := by omega
      simp [h, this]
  rw [e2] at e
  simp -dsimp [slices_Sort_Lint_int.rs]
  rw [← e]
  exact .mk _ _
end Go.Abs.G


namespace Go.Abs.G
open Go.Proofs
attribute [local simp] I.vc sub merge place
set_option linter.unusedVariables false
set_option linter.unusedSimpArgs false

theorem set_rows1 (d : Array Int) (k : Nat) (v : Int) : (d.toList.map fun n => [V.a (.int .i64 n)]).set k [V.a (.int .i64 v)] = (d.setIfInBounds k v).toList.map fun n => [V.a (.int .i64 n)] := by simp [List.map_set]

/-- No two neighbours are the same, so far. -/
def Unlike (d : Array Int) (k : Nat) : Prop := ∀ i, i + 1 < k → d[i + 1]! ≠ d[i]!

set_option maxRecDepth 8000 in
/-- The inner loop: one is left out at least. -/
theorem compact_inner {n k0 l2 : Nat} (hs : n ≤ 1152921504606846976) (hk : k0 < n) (hl2 : k0 + l2 = n) (d : Array Int) (hd : d.size = n) (Q : Ex → St → Prop) (sl : Sl) (bs : Nat)
    (h0 : gt sl 0 = dataV n) (h3 : gt sl 3 = vi k0) (h4 : gt sl 4 = .own 0 1 k0 l2 n) (h5 : gt sl 5 = vi 1)
    (hq : ∀ (s : St) (m : Nat) (d' : Array Int), d'.size = n → m < n → gt s.sl 0 = dataV n → gt s.sl 3 = vi m → s.hp = [rowsO d'] → Q (.exit 2) s) :
    WI Tryz.prog (.loop slices_Compact_Lint_int.b1) Q ⟨sl, [rowsO d], bs⟩ := by
  refine WI.loop 1 (by simp) (fun s => ∃ (j m : Nat) (d' : Array Int), 1 ≤ j ∧ j ≤ l2 ∧ k0 ≤ m ∧ m + 1 ≤ k0 + j ∧ d'.size = n ∧ gt s.sl 0 = dataV n ∧ gt s.sl 3 = vi m ∧ gt s.sl 4 = .own 0 1 k0 l2 n ∧ gt s.sl 5 = vi j ∧ s.hp = [rowsO d']) (fun s => (l2 - (gt s.sl 5).num).toNat) ?_ ?_
  · exact ⟨1, k0, d, by omega, by omega, by omega, by omega, hd, h0, h3, h4, h5, rfl⟩
  · clear h0 h3 h4 h5 hd
    rintro ⟨sl, hp, bs⟩ ⟨j, m, d', hj1, hj, hm1, hm2, hd, h0, h3, h4, h5, rfl⟩
    by_cases hjl : j < l2
    · have i1 : (j : Int) < (l2 : Int) := by omega
      have w1 : IntKind.i64.wrap ((j : Int) - 1) = ((j - 1 : Nat) : Int) := by rw [wrap64] <;> omega
      have w2 : IntKind.i64.wrap ((j : Int) + 1) = ((j + 1 : Nat) : Int) := by rw [wrap64] <;> omega
      have w3 : IntKind.i64.wrap ((m : Int) + 1) = ((m + 1 : Nat) : Int) := by rw [wrap64] <;> omega
      have b1 : k0 + j < d'.size := by omega
      have b2 : k0 + (j - 1) < d'.size := by omega
      have b1' : k0 + j < n := by omega
      have b2' : k0 + (j - 1) < n := by omega
      have b3 : m < n := by omega
      have b3' : m < d'.size := by omega
      obtain ⟨j1, hj1'⟩ : ∃ j1, j - 1 = j1 := ⟨_, rfl⟩
      rw [hj1'] at w1 b2 b2'
      have b4 : j1 < l2 := by omega
      have b4' : (j1 : Int) < (l2 : Int) := by omega
      obtain ⟨μ0, hμ⟩ : ∃ μ0, ((l2 : Int) - (gt sl 5).num).toNat = μ0 := ⟨_, rfl⟩
      have hμ' : μ0 = l2 - j := by rw [← hμ, h5]; show ((l2 : Int) - (j : Int)).toNat = _; omega
      simp only [hμ]
      clear hμ
      unfold slices_Compact_Lint_int.b1
      refine vc_cut (fun s => gt s.sl 0 = dataV n ∧ gt s.sl 3 = vi m ∧ gt s.sl 4 = .own 0 1 k0 l2 n ∧ gt s.sl 5 = vi j ∧ s.hp = [rowsO d']) (by simp -dsimp [h0, h3, h4, h5, i1, hjl, hd]) ?_
      clear h0 h3 h4 h5
      rintro ⟨sl, hp, bs⟩ ⟨h0, h3, h4, h5, rfl⟩
      refine vc_cut (fun s => ∃ (m' : Nat) (d2 : Array Int), k0 ≤ m' ∧ m' + 1 ≤ k0 + (j + 1) ∧ d2.size = n ∧ gt s.sl 0 = dataV n ∧ gt s.sl 3 = vi m' ∧ gt s.sl 4 = .own 0 1 k0 l2 n ∧ gt s.sl 5 = vi j ∧ s.hp = [rowsO d2]) (vc_block_of ?_) ?_
      · obtain ⟨x, hx⟩ : ∃ x, d'[k0 + j] = x := ⟨_, rfl⟩
        obtain ⟨y, hy⟩ : ∃ y, d'[k0 + j1] = y := ⟨_, rfl⟩
        have gx : (d'.toList.map fun n => [V.a (.int .i64 n)])[k0 + j]? = some [V.a (.int .i64 x)] := by simp [← hx, b1]
        have gy : (d'.toList.map fun n => [V.a (.int .i64 n)])[k0 + j1]? = some [V.a (.int .i64 y)] := by simp [← hy, b2]
        refine vc_cut (fun s => gt s.sl 0 = dataV n ∧ gt s.sl 3 = vi m ∧ gt s.sl 4 = .own 0 1 k0 l2 n ∧ gt s.sl 5 = vi j ∧ gt s.sl 44 = .bool (x != y) ∧ s.hp = [rowsO d']) ?_ ?_
        · simp -dsimp [h0, h3, h4, h5, hjl, i1, w1, b4, b4', hd, hx, hy, b1', b2']
        clear h0 h3 h4 h5
        rintro ⟨sl, hp, bs⟩ ⟨h0, h3, h4, h5, h44, rfl⟩
        by_cases he : x = y
        · simp -dsimp [h0, h3, h4, h5, h44, he]
          exact ⟨m, by omega, by omega, d', hd, by omega, rfl⟩
        · simp -dsimp [h0, h3, h4, h5, h44, hjl, gx, b1', b4, b3, hd, hx, he, w3]
          exact ⟨m + 1, by omega, by omega, d'.setIfInBounds m x, by simpa using hd, by omega, set_rows1 _ _ _⟩
      clear h0 h3 h4 h5
      rintro ⟨sl, hp, bs⟩ ⟨m', d2, g1, g2, g3, h0, h3, h4, h5, rfl⟩
      simp -dsimp [h0, h3, h4, h5, w2]
      exact ⟨⟨j + 1, by omega, by omega, m', by omega, by omega, d2, g3, by omega, by omega, rfl⟩, by omega⟩
    · have i1 : ¬ (j : Int) < (l2 : Int) := by omega
      simp -dsimp [slices_Compact_Lint_int.b1, h0, h3, h4, h5, i1, hjl, hd]
      exact hq _ m d' hd (by omega) (by simp) (by simp) (by simp)

set_option maxHeartbeats 1000000 in
theorem compact_spec (d : Array Int) (hs : d.size ≤ 1152921504606846976) :
    DC Tryz.prog slices_Compact_Lint_int.id [dataV d.size] [rowsO d] (fun r H => ∃ (m : Nat) (rows : List (List V)), r = .own 0 1 0 m d.size ∧ H = [.mem false [] rows] ∧ rows.length = d.size ∧ m ≤ d.size ∧ (m = d.size ↔ Unlike d d.size)) := by
  refine DC.of slices_Compact_Lint_int.ok (by simp) ?_
  obtain ⟨n, hn⟩ : ∃ n, d.size = n := ⟨_, rfl⟩
  rw [hn] at hs ⊢
  by_cases h2 : n < 2
  · have i2 : (n : Int) < 2 := by omega
    simp -dsimp [slices_Compact_Lint_int.ir, slices_Compact_Lint_int.rs, i2, h2]
    exact ⟨hn, fun i hi => by omega⟩
  have i2 : ¬ (n : Int) < 2 := by omega
  simp -dsimp [↓loop_f, slices_Compact_Lint_int.ir, i2, h2, hn]
  refine WI.mono (Q := fun e st => (e = .exit 0 ∧ gt st.sl 0 = dataV n ∧ st.hp = [rowsO d] ∧ Unlike d n) ∨ (e = .ret ∧ ∃ (m : Nat) (rows : List (List V)), gt st.sl 2 = .own 0 1 0 m n ∧ st.hp = [.mem false [] rows] ∧ rows.length = n ∧ m < n ∧ ¬ Unlike d n)) (WI.loop 1 (by simp) (fun st => ∃ k : Nat, 1 ≤ k ∧ k ≤ n ∧ gt st.sl 0 = dataV n ∧ gt st.sl 3 = vi k ∧ st.hp = [rowsO d] ∧ Unlike d k) (fun st => (n - (gt st.sl 3).num).toNat) ?_ ?_) ?_
  · exact ⟨1, by omega, by omega, by first | rfl | simp, by first | rfl | simp, rfl, fun i hi => by omega⟩
  · rintro ⟨sl, hp, bs⟩ ⟨k, hk1, hkn, h0, h3, rfl, hu⟩
    by_cases hkl : k < n
    · have i1 : (k : Int) < n := by omega
      obtain ⟨p, rfl⟩ : ∃ p, k = p + 1 := ⟨k - 1, by omega⟩
      obtain ⟨q, hq⟩ : ∃ q, p + 1 = q := ⟨_, rfl⟩
      rw [hq] at h3 hkl hkn i1 hu
      have w1 : IntKind.i64.wrap ((q : Int) - 1) = (p : Int) := by rw [wrap64] <;> omega
      have w2 : IntKind.i64.wrap ((q : Int) + 1) = ((q + 1 : Nat) : Int) := by rw [wrap64] <;> omega
      have b1 : q < d.size := by omega
      have b2 : p < d.size := by omega
      have b2' : p < n := by omega
      obtain ⟨μ0, hμ⟩ : ∃ μ0, ((n : Int) - (gt sl 3).num).toNat = μ0 := ⟨_, rfl⟩
      have hμ' : μ0 = n - q := by rw [← hμ, h3]; show ((n : Int) - (q : Int)).toNat = _; omega
      simp only [hμ]
      clear hμ
      unfold slices_Compact_Lint_int.b0
      refine vc_cut (fun st => gt st.sl 0 = dataV n ∧ gt st.sl 3 = vi q ∧ st.hp = [rowsO d]) (by simp -dsimp [h0, h3, i1, hkl, hn]) ?_
      clear h0 h3
      rintro ⟨sl, hp, bs⟩ ⟨h0, h3, rfl⟩
      by_cases he : d[q] = d[p]
      · have hno : ¬ Unlike d n := fun h => h p (by omega) (by rw [hq, get_bang d b1, get_bang d b2]; exact he)
        refine vc_cut (fun _ => False) (vc_block_of ?_) (fun _ h => h.elim)
        refine vc_cut (fun st => gt st.sl 0 = dataV n ∧ gt st.sl 3 = vi q ∧ gt st.sl 25 = .bool true ∧ st.hp = [rowsO d]) (by simp -dsimp [h0, h3, hkl, w1, b2', hn, he]) ?_
        clear h0 h3
        rintro ⟨sl, hp, bs⟩ ⟨h0, h3, h25, rfl⟩
        rw [vc_cond_true (by simpa using h25)]
        have ecut : n - q = n - q := rfl
        refine vc_cut (fun st => gt st.sl 0 = dataV n ∧ gt st.sl 3 = vi q ∧ gt st.sl 4 = .own 0 1 q (n - q) n ∧ st.hp = [rowsO d]) (by simp -dsimp [h0, h3, hkn]; omega) ?_
        clear h0 h3
        rintro ⟨sl, hp, bs⟩ ⟨h0, h3, h4, rfl⟩
        refine vc_cut (fun st => ∃ (m : Nat) (d' : Array Int), d'.size = n ∧ m < n ∧ gt st.sl 0 = dataV n ∧ gt st.sl 3 = vi m ∧ st.hp = [rowsO d']) ?_ ?_
        · simp -dsimp [↓loop_f, h0, h3, h4]
          exact compact_inner hs hkl (by omega : q + (n - q) = n) d hn _ _ _ (by first | exact h0 | simp [h0]) (by first | exact h3 | simp [h3]) (by first | exact h4 | simp [h4]) (by simp) fun s m d' g1 g2 g3 g4 g5 => ⟨m, d', g1, g2, g3, g4, g5⟩
        clear h0 h3 h4
        rintro ⟨sl, hp, bs⟩ ⟨m, d', hd', hm, h0, h3, rfl⟩
        have bm : m ≤ n := by omega
        simp -dsimp [h0, h3, hd', bm]
        exact ⟨hm, hno⟩
      · refine vc_cut (fun st => gt st.sl 0 = dataV n ∧ gt st.sl 3 = vi q ∧ st.hp = [rowsO d]) (vc_block_of (by simp -dsimp [h0, h3, hkl, w1, b2', hn, he])) ?_
        clear h0 h3
        rintro ⟨sl, hp, bs⟩ ⟨h0, h3, rfl⟩
        simp -dsimp [h0, h3, w2]
        refine ⟨⟨q + 1, by omega, by omega, by omega, fun i hi => ?_⟩, by omega⟩
        by_cases hip : i = p
        · subst hip; rw [hq, get_bang d b1, get_bang d b2]; exact he
        · exact hu i (by omega)
    · have i1 : ¬ (k : Int) < n := by omega
      obtain rfl : k = n := by omega
      simp -dsimp [slices_Compact_Lint_int.b0, h0, h3, i1, hkl]
      exact ⟨hn, hu⟩
  · rintro e ⟨sl, hp, bs⟩ (⟨rfl, h0, rfl, hu⟩ | ⟨rfl, m, rows, h2, rfl, hl, hm, hu⟩)
    · simp -dsimp [h0, slices_Compact_Lint_int.rs]
      exact ⟨hn, hu⟩
    · simp -dsimp [h2, slices_Compact_Lint_int.rs, hu, hl]
      omega
end Go.Abs.G


namespace Go.Abs.G
open Go.Proofs
attribute [local simp] I.vc sub merge place
set_option linter.unusedVariables false
set_option linter.unusedSimpArgs false

theorem unlike_nodup (l : List Int) : Unlike (l.mergeSort (fun x y => decide (x ≤ y))).toArray l.length ↔ l.Nodup := by
  have hp := List.mergeSort_perm l (fun x y => decide (x ≤ y))
  have hs : (l.mergeSort (fun x y => decide (x ≤ y))).Pairwise (fun x y => decide (x ≤ y) = true) :=
    List.pairwise_mergeSort (fun a b c h1 h2 => by simp at *; omega) (fun a b => by simp; omega) l
  have hl := hp.length_eq
  rw [← hp.nodup_iff]
  generalize l.mergeSort (fun x y => decide (x ≤ y)) = s at hs hl hp
  rw [← hl]
  rw [List.pairwise_iff_getElem] at hs
  constructor
  · intro h
    rw [List.nodup_iff_pairwise_ne, List.pairwise_iff_getElem]
    intro i j hi hj hij
    obtain ⟨k, rfl⟩ : ∃ k, j = k + 1 := ⟨j - 1, by omega⟩
    have h1 := h k hj
    have e1 : s.toArray[k + 1]! = s[k + 1] := by rw [getElem!_pos s.toArray (k + 1) (by simpa using hj)]; simp
    have e2 : s.toArray[k]! = s[k] := by rw [getElem!_pos s.toArray k (by simp; omega)]; simp
    rw [e1, e2] at h1
    have h2 : s[k] ≤ s[k + 1] := by simpa using hs k (k + 1) (by omega) hj (by omega)
    have h3 : s[i] ≤ s[k] := by
      by_cases hik : i = k
      · subst hik; exact Int.le_refl _
      · simpa using hs i k hi (by omega) (by omega)
    omega
  · intro h i hi
    rw [List.nodup_iff_pairwise_ne, List.pairwise_iff_getElem] at h
    have e1 : s.toArray[i + 1]! = s[i + 1] := by rw [getElem!_pos s.toArray (i + 1) (by simpa using hi)]; simp
    have e2 : s.toArray[i]! = s[i] := by rw [getElem!_pos s.toArray i (by simp; omega)]; simp
    rw [e1, e2]
    exact fun e => h i (i + 1) (by omega) hi (by omega) e.symm

theorem maxI_snoc : ∀ (a : List Int) (x : Int), a ≠ [] → maxI (a ++ [x]) = max (maxI a) x
  | [], x, h => absurd rfl h
  | [y], x, _ => rfl
  | y :: z :: a, x, _ => by
    have := maxI_snoc (z :: a) x (by simp)
    show max y (maxI ((z :: a) ++ [x])) = max (max y (maxI (z :: a))) x
    rw [this, Int.max_assoc]
theorem minI_snoc : ∀ (a : List Int) (x : Int), a ≠ [] → minI (a ++ [x]) = min (minI a) x
  | [], x, h => absurd rfl h
  | [y], x, _ => rfl
  | y :: z :: a, x, _ => by
    have := minI_snoc (z :: a) x (by simp)
    show min y (minI ((z :: a) ++ [x])) = min (min y (minI (z :: a))) x
    rw [this, Int.min_assoc]

theorem max_spec (l : List Int) (h1 : 1 ≤ l.length) (h2 : l.length ≤ 64) : Pf Tryz.prog slices_Max_Lint_int.id [vInts l] (V.i (maxI l)) := by
  refine DC.of slices_Max_Lint_int.ok (by simp) ?_
  have i1 : ¬ (l.length : Int) < 1 := by omega
  have i2 : 0 < l.length := by omega
  unfold slices_Max_Lint_int.ir
  refine vc_cut (fun s => gt s.sl 0 = vInts l ∧ s.hp = []) (by simp [vInts]) ?_
  rintro ⟨sl, hp, bs⟩ ⟨h0, rfl⟩
  refine vc_cut (fun s => gt s.sl 0 = vInts l ∧ s.hp = []) ?_ ?_
  · refine vc_cut (fun s => gt s.sl 0 = vInts l ∧ gt s.sl 7 = .bool false ∧ s.hp = []) (by simp [h0, vInts, i1]) ?_
    rintro ⟨sl, hp, bs⟩ ⟨h0, h7, rfl⟩
    rw [vc_cond_false (by simpa using h7)]
    exact ⟨h0, rfl⟩
  rintro ⟨sl, hp, bs⟩ ⟨h0, rfl⟩
  refine vc_cut (fun s => gt s.sl 0 = vInts l ∧ gt s.sl 3 = V.i (maxI (l.take 1)) ∧ s.hp = []) ?_ ?_
  · obtain ⟨x, l', rfl⟩ := List.length_pos_iff_exists_cons.1 i2
    simp [h0, vInts, maxI]
  rintro ⟨sl, hp, bs⟩ ⟨h0, h3, rfl⟩
  simp [h0, h3, vInts]
  refine WI.mono (Q := fun e s => e = .exit 0 ∧ gt s.sl 3 = V.i (maxI l) ∧ s.hp = []) (WI.loop 0 (by simp) (fun s => ∃ i, 1 ≤ i ∧ i ≤ l.length ∧ gt s.sl 0 = vInts l ∧ gt s.sl 3 = V.i (maxI (l.take i)) ∧ gt s.sl 4 = V.i i ∧ s.hp = []) (fun s => (l.length - (gt s.sl 4).num).toNat) ?_ ?_) ?_
  · exact ⟨1, by simp [vInts, h1]⟩
  · clear h0 h3
    rintro ⟨sl, hp, bs⟩ ⟨i, hi1, hi, h0, h3, h4, rfl⟩
    by_cases hil : i < l.length
    · have hw : IntKind.i64.wrap ((i : Int) + 1) = ((i + 1 : Nat) : Int) := by rw [wrap64] <;> omega
      have hne : l.take i ≠ [] := List.ne_nil_of_length_pos (by rw [List.length_take]; omega)
      have hm : maxI (l.take (i + 1)) = max (maxI (l.take i)) l[i] := by rw [List.take_succ_eq_append_getElem hil, maxI_snoc _ _ hne]
      simp [slices_Max_Lint_int.b0, h0, h3, h4, vInts, hil, hw]
      exact ⟨⟨i + 1, by omega, by omega, by rw [hm, Int.max_def]; split <;> split <;> omega, by omega⟩, by omega⟩
    · obtain rfl : i = l.length := by omega
      simp [slices_Max_Lint_int.b0, h0, h3, h4, vInts]
  · rintro e ⟨sl, hp, bs⟩ ⟨rfl, h3, rfl⟩
    simp [h3, slices_Max_Lint_int.rs]
theorem min_spec (l : List Int) (h1 : 1 ≤ l.length) (h2 : l.length ≤ 64) : Pf Tryz.prog slices_Min_Lint_int.id [vInts l] (V.i (minI l)) := by
  refine DC.of slices_Min_Lint_int.ok (by simp) ?_
  have i1 : ¬ (l.length : Int) < 1 := by omega
  have i2 : 0 < l.length := by omega
  unfold slices_Min_Lint_int.ir
  refine vc_cut (fun s => gt s.sl 0 = vInts l ∧ s.hp = []) (by simp [vInts]) ?_
  rintro ⟨sl, hp, bs⟩ ⟨h0, rfl⟩
  refine vc_cut (fun s => gt s.sl 0 = vInts l ∧ s.hp = []) ?_ ?_
  · refine vc_cut (fun s => gt s.sl 0 = vInts l ∧ gt s.sl 7 = .bool false ∧ s.hp = []) (by simp [h0, vInts, i1]) ?_
    rintro ⟨sl, hp, bs⟩ ⟨h0, h7, rfl⟩
    rw [vc_cond_false (by simpa using h7)]
    exact ⟨h0, rfl⟩
  rintro ⟨sl, hp, bs⟩ ⟨h0, rfl⟩
  refine vc_cut (fun s => gt s.sl 0 = vInts l ∧ gt s.sl 3 = V.i (minI (l.take 1)) ∧ s.hp = []) ?_ ?_
  · obtain ⟨x, l', rfl⟩ := List.length_pos_iff_exists_cons.1 i2
    simp [h0, vInts, minI]
  rintro ⟨sl, hp, bs⟩ ⟨h0, h3, rfl⟩
  simp [h0, h3, vInts]
  refine WI.mono (Q := fun e s => e = .exit 0 ∧ gt s.sl 3 = V.i (minI l) ∧ s.hp = []) (WI.loop 0 (by simp) (fun s => ∃ i, 1 ≤ i ∧ i ≤ l.length ∧ gt s.sl 0 = vInts l ∧ gt s.sl 3 = V.i (minI (l.take i)) ∧ gt s.sl 4 = V.i i ∧ s.hp = []) (fun s => (l.length - (gt s.sl 4).num).toNat) ?_ ?_) ?_
  · exact ⟨1, by simp [vInts, h1]⟩
  · clear h0 h3
    rintro ⟨sl, hp, bs⟩ ⟨i, hi1, hi, h0, h3, h4, rfl⟩
    by_cases hil : i < l.length
    · have hw : IntKind.i64.wrap ((i : Int) + 1) = ((i + 1 : Nat) : Int) := by rw [wrap64] <;> omega
      have hne : l.take i ≠ [] := List.ne_nil_of_length_pos (by rw [List.length_take]; omega)
      have hm : minI (l.take (i + 1)) = min (minI (l.take i)) l[i] := by rw [List.take_succ_eq_append_getElem hil, minI_snoc _ _ hne]
      simp [slices_Min_Lint_int.b0, h0, h3, h4, vInts, hil, hw]
      exact ⟨⟨i + 1, by omega, by omega, by rw [hm, Int.min_def]; split <;> split <;> omega, by omega⟩, by omega⟩
    · obtain rfl : i = l.length := by omega
      simp [slices_Min_Lint_int.b0, h0, h3, h4, vInts]
  · rintro e ⟨sl, hp, bs⟩ ⟨rfl, h3, rfl⟩
    simp [h3, slices_Min_Lint_int.rs]

section
variable {f : FuncId} {cap : List V} {g : Int → Int} {vars : Nat} (A : AtOk f cap g vars)
include A

theorem each_own {xs : List Int} (hl : xs.length ≤ 64) (h1 : 1 ≤ xs.length) (hx : ∀ x ∈ xs, 0 ≤ x ∧ x < vars) : DC Tryz.prog model_each.id [vInts xs, .fn (.func f) [] cap] [] (fun r H => ∃ o, r = .own 1 1 0 xs.length xs.length ∧ H = [o, rowsO (xs.map g).toArray]) := by
  have hid := A.ids
  have hok := A.ok
  refine DC.of model_each.ok (by simp) ?_
  simp [model_each.ir, model_each.rs, vInts, hid, hok]
  refine WI.mono (Q := fun e s => e = .exit 0 ∧ ∃ o, gt s.sl 5 = .own 1 1 0 xs.length xs.length ∧ s.hp = [o, .mem false [] ((xs.map g).map fun x => [V.i x])]) (WI.loop 2 (by simp) (fun s => ∃ i, i ≤ xs.length ∧ gt s.sl 1 = .fn (.func f) [] cap ∧ gt s.sl 8 = vInts xs ∧ gt s.sl 9 = V.i xs.length ∧ gt s.sl 10 = V.i i ∧
      ((i = 0 ∧ gt s.sl 5 = .a (.slice none 0 0) ∧ s.hp = []) ∨ ∃ o, 0 < i ∧ gt s.sl 5 = .own 1 1 0 i i ∧ s.hp = [o, .mem false [] (((xs.take i).map g).map fun x => [V.i x])])) (fun s => (xs.length - (gt s.sl 10).num).toNat) ?_ ?_) ?_
  · exact ⟨0, by simp [vInts]⟩
  · rintro ⟨sl, hp, bs⟩ ⟨i, hi, h1, h8, h9, h10, hcase⟩
    by_cases hil : i < xs.length
    · have hxi := hx _ (List.getElem_mem hil)
      have hw : IntKind.i64.wrap ((i : Int) + 1) = ((i + 1 : Nat) : Int) := by rw [wrap64] <;> omega
      have htk : List.take (i + 1) (List.map ((fun n => [V.i n]) ∘ g) xs) = List.take i (List.map ((fun n => [V.i n]) ∘ g) xs) ++ [[V.i (g xs[i])]] := by
        rw [List.take_succ_eq_append_getElem (by simpa using hil)]; simp
      have h1w : IntKind.i64.wrap 1 = 1 := by decide
      rcases hcase with ⟨rfl, h5, rfl⟩ | ⟨o, h0, h5, rfl⟩
      · simp [model_each.b0, h1, h5, h8, h9, h10, vInts, hil, hid, hok]
        refine DP.mono (A.run _ hxi.1 hxi.2) fun r hr => ?_
        subst hr
        simp [hid, hok]
        exact ⟨⟨1, by omega, h1w, by omega, rfl, by simpa using htk.symm⟩, by omega⟩
      · simp [model_each.b0, h1, h5, h8, h9, h10, vInts, hil, hid, hok]
        refine DP.mono (A.run _ hxi.1 hxi.2) fun r hr => ?_
        subst hr
        simp [hid, hok]
        exact ⟨by omega, by omega, ⟨i + 1, by omega, hw, by omega, rfl, htk.symm⟩, by omega⟩
    · obtain rfl : i = xs.length := by omega
      simp [model_each.b0, h1, h8, h9, h10]
      rcases hcase with ⟨h0, h5, rfl⟩ | ⟨o, h0, h5, rfl⟩
      · omega
      · refine ⟨h5, ?_⟩
        simp
  · rintro e ⟨sl, hp, bs⟩ ⟨rfl, o, h5, rfl⟩
    simp [h5]

theorem maxK_spec {c : Con} {n : Needs} (hk : c.kind = 5) (hy : n.y = true) (hxs : n.xs = true) (hc : ConOk c vars n) : Pf Tryz.prog model_kinds_2.id [.agg c.cells, .fn (.func f) [] cap] (.bool (holdsK c g)) := by
  have hid := A.ids
  have hok := A.ok
  refine DC.of model_kinds_2.ok (by simp) ?_
  simp [model_kinds_2.ir, model_kinds_2.rs, Con.cells, vTerms, vInts, vIntss, hid, hok]
  refine DP.mono (A.run _ (hc.y hy).1 (hc.y hy).2) fun r hr => ?_
  subst hr
  refine (each_spec A hc.xsN hc.xs).use ?_
  refine ⟨by simp [vInts], (max_spec (c.xs.map g) (by simpa using hc.xs1 hxs) (by simpa using hc.xsN)).use ?_⟩
  simp [holdsK, hk]
  rfl

theorem minK_spec {c : Con} {n : Needs} (hk : c.kind = 6) (hy : n.y = true) (hxs : n.xs = true) (hc : ConOk c vars n) : Pf Tryz.prog model_kinds_3.id [.agg c.cells, .fn (.func f) [] cap] (.bool (holdsK c g)) := by
  have hid := A.ids
  have hok := A.ok
  refine DC.of model_kinds_3.ok (by simp) ?_
  simp [model_kinds_3.ir, model_kinds_3.rs, Con.cells, vTerms, vInts, vIntss, hid, hok]
  refine DP.mono (A.run _ (hc.y hy).1 (hc.y hy).2) fun r hr => ?_
  subst hr
  refine (each_spec A hc.xsN hc.xs).use ?_
  refine ⟨by simp [vInts], (min_spec (c.xs.map g) (by simpa using hc.xs1 hxs) (by simpa using hc.xsN)).use ?_⟩
  simp [holdsK, hk]
  rfl

theorem allDiff_spec {c : Con} {n : Needs} (hk : c.kind = 3) (hxs : n.xs = true) (hc : ConOk c vars n) : Pf Tryz.prog model_allDiff.id [.agg c.cells, .fn (.func f) [] cap] (.bool (holdsK c g)) := by
  have hid := A.ids
  have hok := A.ok
  have hx1 := hc.xs1 hxs
  have hxN := hc.xsN
  refine DC.of model_allDiff.ok (by simp) ?_
  unfold model_allDiff.ir
  obtain ⟨L, hL⟩ : ∃ L, c.xs.length = L := ⟨_, rfl⟩
  refine vc_cut (fun s => gt s.sl 1 = .fn (.func f) [] cap ∧ gt s.sl 2 = .ptr 0 1 0 0 ∧ s.hp = [.mem false [] [c.cells]]) (by simp [Con.cells, vTerms, vInts, vIntss]) ?_
  rintro ⟨sl, hp, bs⟩ ⟨h1, h2, rfl⟩
  refine vc_cut (fun s => ∃ o, gt s.sl 2 = .ptr 0 1 0 0 ∧ gt s.sl 5 = .own 2 1 0 L L ∧ s.hp = [.mem false [] [c.cells], o, rowsO (c.xs.map g).toArray]) ?_ ?_
  · simp -dsimp [↓callo_fn, h1, h2, Con.cells, vTerms, vInts, vIntss, hid]
    refine DC.mono (each_own A hc.xsN hx1 hc.xs) fun r H ⟨o, hr, hH⟩ => ?_
    subst hr hH
    simp [h1, h2, hL]
  clear h1 h2
  rintro ⟨sl, hp, bs⟩ ⟨o, h2, h5, rfl⟩
  obtain ⟨d, hd⟩ : ∃ d, (c.xs.map g).toArray = d := ⟨_, rfl⟩
  have zd : d.size = L := by rw [← hd, ← hL]; simp
  have hdl : d.toList = c.xs.map g := by rw [← hd]
  rw [hd]
  obtain ⟨s, hs⟩ : ∃ s, (d.toList.mergeSort (fun x y => decide (x ≤ y))).toArray = s := ⟨_, rfl⟩
  have zs : s.size = L := by rw [← hs, ← zd]; simp [List.length_mergeSort]
  have hu : Unlike s L ↔ (c.xs.map g).Nodup := by
    have := unlike_nodup d.toList
    rw [hs, hdl] at this
    simpa [hL] using this
  refine vc_cut (fun st => ∃ J, gt st.sl 2 = .ptr 0 1 0 0 ∧ gt st.sl 5 = .own 2 1 0 L L ∧ st.hp = .mem false [] [c.cells] :: o :: rowsO s :: J) ?_ ?_
  · have sp := sort_spec d (by omega)
    rw [hs, zd] at sp
    simp -dsimp [↓callm_fn, h2, h5]
    refine DC.mono sp fun r H ⟨hri, J, hH⟩ => ?_
    subst hH
    simp -dsimp [h2, h5]
  clear h2 h5
  rintro ⟨sl, hp, bs⟩ ⟨J, h2, h5, rfl⟩
  have sp := compact_spec s (by omega)
  rw [zs] at sp
  simp -dsimp [↓calla_fn, h2, h5, Con.cells, vTerms, vInts, vIntss]
  refine DC.mono sp fun r H ⟨m, rows, hr, hH, hl, hm, hiff⟩ => ?_
  subst hr hH
  simp -dsimp [h2, h5, model_allDiff.rs, Con.cells, vTerms, vInts, vIntss, hl, hL]
  have hH : holdsK c g = decide (m = L) := by
    simp only [holdsK, hk]
    simp
    exact (hiff.trans hu).symm
  rw [hH]
  by_cases hmL : m = L
  · simp [hmL]
  · have : ¬ (m : Int) = (L : Int) := by omega
    simp [hmL]
    exact this
end
end Go.Abs.G


namespace Go.Abs.G
open Go.Proofs
attribute [local simp] I.vc sub merge place
set_option linter.unusedVariables false
set_option linter.unusedSimpArgs false

/-- Every kind. -/
def KindOk (_ : Con) : Prop := True

theorem kind_run {c : Con} {values : List Int} {n : Needs} {f : FuncId} (hk : KindOk c) (hm : (c.kind, n, f) ∈ kindTab) (hc : ConOk c values.length n) (hg : greatB values = false) (hr : ∀ r ∈ c.rows, r.length ≤ maxLen) :
    okFunc Tryz.prog f = true ∧ Pf Tryz.prog f [.agg c.cells, .fn (.func model_Holds_1.id) [] [.ref [vInts values] 0]] (.bool (holdsK c (atI values))) := by
  have A : AtOk model_Holds_1.id [.ref [vInts values] 0] (atI values) values.length :=
    ⟨by simp, by simp, fun x h0 h1 => holds1_spec values x h0 h1, fun x h0 h1 => great_at hg h0 h1⟩
  simp only [kindTab, List.mem_cons, Prod.mk.injEq, List.not_mem_nil, or_false] at hm
  rcases hm with ⟨h, rfl, rfl⟩ | ⟨h, rfl, rfl⟩ | ⟨h, rfl, rfl⟩ | ⟨h, rfl, rfl⟩ | ⟨h, rfl, rfl⟩ | ⟨h, rfl, rfl⟩ | ⟨h, rfl, rfl⟩ | ⟨h, rfl, rfl⟩ | ⟨h, rfl, rfl⟩
  · exact ⟨by simp, lin_spec A h hc⟩
  · exact ⟨by simp, ne_spec A h rfl rfl hc⟩
  · exact ⟨by simp, allDiff_spec A h rfl hc⟩
  · exact ⟨by simp, element_spec A h rfl rfl hc⟩
  · exact ⟨by simp, maxK_spec A h rfl rfl hc⟩
  · exact ⟨by simp, minK_spec A h rfl rfl hc⟩
  · exact ⟨by simp, reif_spec A h rfl hc⟩
  · exact ⟨by simp, table_spec A h hc hr⟩
  · exact ⟨by simp, count_spec A h hc⟩

theorem holds_spec (c : Con) (values : List Int) (hc : okCon c) (hv : values.length ≤ maxLen) (hk : KindOk c) : Pf Tryz.prog model_Holds.id [.agg c.cells, vInts values] (.bool (holdsB c values)) := by
  have hc0 := hc
  obtain ⟨_, _, _, _, _, _, _, _, _, _, hrows⟩ := hc0
  refine DC.of model_Holds.ok (by simp) ?_
  unfold model_Holds.ir
  refine vc_cut (fun s => gt s.sl 2 = .ptr 0 1 0 0 ∧ gt s.sl 3 = .ptr 1 1 0 0 ∧ s.hp = [.mem false [] [c.cells], .mem false [] [[vInts values]]]) (by simp [Con.cells, vTerms, vInts, vIntss]) ?_
  rintro ⟨sl, hp, bs⟩ ⟨h2, h3, rfl⟩
  refine vc_cut (fun s => gt s.sl 2 = .ptr 0 1 0 0 ∧ gt s.sl 3 = .ptr 1 1 0 0 ∧ s.hp = [.mem false [] [c.cells], .mem false [] [[vInts values]]] ∧ conB c values.length = 0 ∧ greatB values = false) ?_ ?_
  · simp [h2, h3, Con.cells, vTerms, vInts, vIntss]
    refine (con_spec c values.length hc).use ?_
    by_cases hb : conB c values.length = 0
    · simp [hb]
      refine (sized_spec values hv).use ?_
      cases hg : greatB values
      · simp [h2, h3, Con.cells, vTerms, vInts, vIntss]
      · simp [h2, h3, holdsB, hb, hg, model_Holds.rs]
    · simp [hb, holdsB, model_Holds.rs]
  rintro ⟨sl, hp, bs⟩ ⟨h2, h3, rfl, hb, hg⟩
  have hH : holdsB c values = holdsK c (atI values) := by simp [holdsB, hb, hg]
  rw [hH]
  simp [h2, h3, Con.cells, vTerms, vInts, vIntss]
  refine kinds_spec.use ?_
  have hkey := kindEnts_key
  rcases kindEnts_get c.kind with ⟨h1, _⟩ | ⟨n, f, h1, hmem, h3'⟩
  · simp [conB, h1] at hb
  have hcN : conN c values.length n = 0 := by simpa [conB, h1] using hb
  obtain ⟨hokf, hrun⟩ := kind_run hk hmem (ConOk.of hcN) hg fun r hr => (hrows r hr).1
  simp [kindsV, h3', Needs.cells, hokf]
  refine ⟨⟨fun a b h => hkey _ h, rfl⟩, ?_⟩
  refine DP.mono (show DP Tryz.prog f _ _ from hrun) fun r hr => ?_
  subst hr
  simp [model_Holds.rs]

end Go.Abs.G


namespace Go.Abs.G
open Go.Proofs
attribute [local simp] I.vc sub merge place
set_option linter.unusedVariables false
set_option linter.unusedSimpArgs false

end Go.Abs.G


namespace Go.Abs.G
open Go.Proofs
attribute [local simp] I.vc sub merge place
set_option linter.unusedVariables false

abbrev cnt (left : Int) : O := .mem false [] [[.int .i64 left]]
/-- What may be left. -/
def okLeft (left : Int) : Prop := -9223372036854775808 < left ∧ left ≤ 20000
def addL (left n : Int) : Int := if 0 ≤ left then left - n else left

theorem addL_ok {left n : Int} (h : okLeft left) (h0 : 0 ≤ n) (h1 : n ≤ 9223372036854775807) : okLeft (addL left n) := by
  unfold okLeft addL at *
  split <;> omega

theorem add_spec (left n : Int) (h : okLeft left) (h0 : 0 ≤ n) (h1 : n ≤ 9223372036854775807) :
    DC Tryz.prog hallmarkroom_Count_Add.id [.ptr 0 1 0 0, V.i n] [cnt left] (fun r H => r = .bool (decide (0 ≤ addL left n)) ∧ H = [cnt (addL left n)]) := by
  refine DC.of hallmarkroom_Count_Add.ok (by simp) ?_
  unfold okLeft at h
  have hw : 0 ≤ left → IntKind.i64.wrap (left - n) = left - n := fun _ => wrap64 (by omega) (by omega)
  simp [hallmarkroom_Count_Add.ir, hallmarkroom_Count_Add.rs]
  unfold addL
  split <;> simp_all <;> omega

theorem ok_spec (left : Int) : DC Tryz.prog hallmarkroom_Count_Ok.id [.ptr 0 1 0 0] [cnt left] (fun r H => r = .bool (decide (0 ≤ left)) ∧ H = [cnt left]) := by
  refine DC.of hallmarkroom_Count_Ok.ok (by simp) ?_
  simp [hallmarkroom_Count_Ok.ir, hallmarkroom_Count_Ok.rs]

theorem many_spec (n : Int) : DC Tryz.prog hallmarkroom_Many.id [V.i n] [] (fun r H => r = .ptr 0 1 0 0 ∧ H = [cnt n]) := by
  refine DC.of hallmarkroom_Many.ok (by simp) ?_
  simp [hallmarkroom_Many.ir, hallmarkroom_Many.rs]

theorem text_spec (left : Int) (s : ByteArray) (h : okLeft left) (hs : s.size ≤ maxLen) :
    DC Tryz.prog hallmarkroom_Count_Text.id [.ptr 0 1 0 0, .str s] [cnt left] (fun r H => H = [cnt (addL (addL left 1) s.size)]) := by
  have hm : (maxLen : Int) ≤ 9223372036854775807 := by decide
  refine DC.of hallmarkroom_Count_Text.ok (by simp) ?_
  simp [hallmarkroom_Count_Text.ir, hallmarkroom_Count_Text.rs]
  refine DC.mono (add_spec left 1 h (by decide) (by decide)) fun r H' ⟨_, hH⟩ => ?_
  subst hH
  simp
  refine DC.mono (add_spec _ s.size (addL_ok h (by decide) (by decide)) (by omega) (by omega)) fun r H' ⟨_, hH⟩ => ?_
  subst hH
  simp

end Go.Abs.G


/- few, and what it says of sizes. -/
namespace Go.Abs.G
open Go.Proofs
attribute [local simp] I.vc sub merge place
set_option linter.unusedVariables false

structure FewCon (c : Con) : Prop where
  terms : c.terms.length ≤ 20000
  xs : c.xs.length ≤ 20000
  table : c.table.length ≤ 20000
  rows : c.rows.length ≤ 20000
  row : ∀ r ∈ c.rows, r.length ≤ 20000
structure FewM (m : Model) : Prop where
  vars : m.vars.length ≤ 20000
  cons : m.cons.length ≤ 20000
  con : ∀ c ∈ m.cons, FewCon c
  goal : m.goal.length ≤ 20000

/-- What is left behind so many more. -/
def Cnt (a b n : Int) : Prop := 0 ≤ b → 0 ≤ a ∧ b + n ≤ a
theorem Cnt.refl (a : Int) : Cnt a a 0 := fun h => ⟨h, by omega⟩
theorem Cnt.trans {a b c n k : Int} (h : Cnt a b n) (h' : Cnt b c k) : Cnt a c (n + k) := fun hc => by
  have h1 := h' hc
  have h2 := h h1.1
  omega
theorem Cnt.add {a b n k : Int} (h : Cnt a b n) (hk : 0 ≤ k) : Cnt a (addL b k) (n + k) := by
  unfold Cnt addL at *
  split <;> omega

theorem lists2_spec (left : Int) (l : List (List Int)) (h : okLeft left) (hl : l.length ≤ maxLen) (hr : ∀ r ∈ l, r.length ≤ maxLen) :
    DC Tryz.prog hallmarkroom_Count_Lists.id [.ptr 0 1 0 0, vIntss l] [cnt left] (fun r H => ∃ left', okLeft left' ∧ Cnt left left' l.length ∧ (0 ≤ left' → ∀ r ∈ l, r.length ≤ 20000) ∧ H = [cnt left']) := by
  have hm : (maxLen : Int) ≤ 9223372036854775807 := by decide
  refine DC.of hallmarkroom_Count_Lists.ok (by simp) ?_
  simp [hallmarkroom_Count_Lists.ir, hallmarkroom_Count_Lists.rs, vIntss]
  refine WI.loop 1 (by simp) (fun s => ∃ i left', i ≤ l.length ∧ okLeft left' ∧ Cnt left left' i ∧ (0 ≤ left' → ∀ r ∈ l.take i, r.length ≤ 20000) ∧ gt s.sl 0 = .ptr 0 1 0 0 ∧ gt s.sl 1 = vIntss l ∧ gt s.sl 4 = V.i i ∧ s.hp = [cnt left']) (fun s => (l.length - (gt s.sl 4).num).toNat) ?_ ?_
  · exact ⟨0, left, by simp [vIntss, h]; exact Cnt.refl _⟩
  · rintro ⟨sl, hp, bs⟩ ⟨i, left', hi, h', hct, hall, g0, g1, g4, rfl⟩
    by_cases hil : i < l.length
    · simp [hallmarkroom_Count_Lists.b0, g0, g1, g4, vIntss, hil]
      refine DC.mono (ok_spec left') fun r H' ⟨hr', hH⟩ => ?_
      subst hr' hH
      by_cases h0 : 0 ≤ left'
      · simp [h0]
        refine DC.mono (add_spec left' 1 h' (by decide) (by decide)) fun r H' ⟨_, hH⟩ => ?_
        subst hH
        have hr2 := hr _ (List.getElem_mem hil)
        simp [vInts]
        refine DC.mono (add_spec _ (l[i].length) (addL_ok h' (by decide) (by decide)) (by omega) (by omega)) fun r H' ⟨_, hH⟩ => ?_
        subst hH
        have hw : IntKind.i64.wrap ((i : Int) + 1) = ((i + 1 : Nat) : Int) := by rw [wrap64] <;> omega
        simp [hw]
        have hc2 := (hct.add (k := 1) (by omega)).add (k := l[i].length) (by omega)
        refine ⟨⟨i + 1, by omega, _, addL_ok (addL_ok h' (by decide) (by decide)) (by omega) (by omega), fun hb => ?_, fun hb r hr' => ?_, by omega, rfl⟩, by omega⟩
        · have := hc2 hb
          omega
        · have hx := hc2 hb
          unfold okLeft at h
          rw [List.take_succ_eq_append_getElem hil] at hr'
          rcases List.mem_append.1 hr' with hr' | hr'
          · exact hall h0 r hr'
          · have : r = l[i] := by simpa using hr'
            subst this
            omega
      · simp [h0]
        exact ⟨_, h', fun hb => absurd hb h0, fun hb => absurd hb h0, rfl⟩
    · obtain rfl : i = l.length := by omega
      simp [hallmarkroom_Count_Lists.b0, g0, g1, g4, vIntss]
      exact ⟨_, h', hct, by simpa using hall, rfl⟩

theorem cntCon2_spec (left : Int) (c : Con) (h : okLeft left) (hc : okCon c) :
    DC Tryz.prog hallmarkroom_Count_Con.id [.ptr 0 1 0 0, .agg c.cells] [cnt left] (fun r H => ∃ left' o, okLeft left' ∧ Cnt left left' 1 ∧ (0 ≤ left' → FewCon c) ∧ H = [cnt left', o]) := by
  have hm : (maxLen : Int) ≤ 9223372036854775807 := by decide
  obtain ⟨_, _, ⟨h3, _⟩, _, _, _, _, ⟨h8, _⟩, ⟨h9, _⟩, h10, h11⟩ := hc
  refine DC.of hallmarkroom_Count_Con.ok (by simp) ?_
  simp [hallmarkroom_Count_Con.ir, hallmarkroom_Count_Con.rs, Con.cells, vTerms, vInts, vIntss]
  refine DC.mono (add_spec left 1 h (by decide) (by decide)) fun r H' ⟨_, hH⟩ => ?_
  subst hH
  have k1 := addL_ok h (n := 1) (by decide) (by decide)
  simp
  refine DC.mono (add_spec _ c.terms.length k1 (by omega) (by omega)) fun r H' ⟨_, hH⟩ => ?_
  subst hH
  have k2 := addL_ok k1 (n := c.terms.length) (by omega) (by omega)
  simp
  refine DC.mono (add_spec _ c.xs.length k2 (by omega) (by omega)) fun r H' ⟨_, hH⟩ => ?_
  subst hH
  have k3 := addL_ok k2 (n := c.xs.length) (by omega) (by omega)
  simp
  refine DC.mono (add_spec _ c.table.length k3 (by omega) (by omega)) fun r H' ⟨_, hH⟩ => ?_
  subst hH
  have k4 := addL_ok k3 (n := c.table.length) (by omega) (by omega)
  simp
  refine DC.mono (lists2_spec _ c.rows k4 h10 fun r hr => (h11 r hr).1) fun r H' ⟨left', ho, hct, hall, hH⟩ => ?_
  subst hH
  simp
  have hc1 := (((((Cnt.refl left).add (k := 1) (by omega)).add (k := c.terms.length) (by omega)).add (k := c.xs.length) (by omega)).add (k := c.table.length) (by omega)).trans hct
  unfold okLeft at h
  refine ⟨_, ho, fun hb => ?_, fun hb => ?_, rfl⟩
  · have := hc1 hb
    omega
  · have hx := hc1 hb
    exact ⟨by omega, by omega, by omega, by omega, hall hb⟩

theorem cntModel2_spec (left : Int) (m : Model) (h : okLeft left) (hm' : okModel m) :
    DC Tryz.prog hallmarkroom_Count_Model.id [.ptr 0 1 0 0, .agg m.cells] [cnt left] (fun r H => ∃ left' o, okLeft left' ∧ (0 ≤ left' → FewM m) ∧ H = [cnt left', o]) := by
  have hm : (maxLen : Int) ≤ 9223372036854775807 := by decide
  obtain ⟨⟨hv, hv'⟩, ⟨hc, hc'⟩, hg, _⟩ := hm'
  refine DC.of hallmarkroom_Count_Model.ok (by simp) ?_
  simp [hallmarkroom_Count_Model.ir, hallmarkroom_Count_Model.rs, Model.cells, vVars, vCons, vTerms]
  refine WI.mono (Q := fun e s => e = .exit 0 ∧ ∃ left', okLeft left' ∧ Cnt left left' 0 ∧ (0 ≤ left' → m.vars.length ≤ 20000) ∧ gt s.sl 0 = .ptr 0 1 0 0 ∧ gt s.sl 3 = .ptr 1 1 0 0 ∧ s.hp = [cnt left', .mem false [] [m.cells]]) (WI.loop 2 (by simp) (fun s => ∃ i left', i ≤ m.vars.length ∧ okLeft left' ∧ Cnt left left' i ∧ gt s.sl 0 = .ptr 0 1 0 0 ∧ gt s.sl 3 = .ptr 1 1 0 0 ∧ gt s.sl 4 = V.i i ∧ s.hp = [cnt left', .mem false [] [m.cells]]) (fun s => (m.vars.length - (gt s.sl 4).num).toNat) ?_ ?_) ?_
  · exact ⟨0, left, by simp [Model.cells, vVars, vCons, vTerms, h]; exact Cnt.refl _⟩
  · rintro ⟨sl, hp, bs⟩ ⟨i, left', hi, h', hct, g0, g3, g4, rfl⟩
    by_cases hil : i < m.vars.length
    · simp [hallmarkroom_Count_Model.b0, g0, g3, g4, Model.cells, vVars, vCons, vTerms, hil]
      refine DC.mono (ok_spec left') fun r H' ⟨hr', hH⟩ => ?_
      subst hr' hH
      by_cases h0 : 0 ≤ left'
      · have hr2 := (hv' _ (List.getElem_mem hil)).1
        simp [h0, hil, Var.cells]
        refine DC.mono (text_spec left' _ h' hr2) fun r H' hH => ?_
        subst hH
        have hw : IntKind.i64.wrap ((i : Int) + 1) = ((i + 1 : Nat) : Int) := by rw [wrap64] <;> omega
        simp [hw]
        have hc2 := (hct.add (k := 1) (by omega)).add (k := m.vars[i].name.size) (by omega)
        refine ⟨⟨i + 1, by omega, _, addL_ok (addL_ok h' (by decide) (by decide)) (by omega) (by omega), fun hb => ?_, by omega, rfl⟩, by omega⟩
        have := hc2 hb
        omega
      · simp [h0]
        exact ⟨_, h', fun hb => absurd hb h0, fun hb => absurd hb h0, rfl⟩
    · obtain rfl : i = m.vars.length := by omega
      simp [hallmarkroom_Count_Model.b0, g0, g3, g4, Model.cells, vVars, vCons, vTerms]
      unfold okLeft at h
      refine ⟨_, h', fun hb => ?_, fun hb => ?_, rfl⟩
      · have := hct hb; omega
      · have := hct hb; omega
  · rintro e ⟨sl, hp, bs⟩ ⟨rfl, left', h', hc0, hv0, g0, g3, rfl⟩
    simp [g0, g3]
    refine WI.mono (Q := fun e s => e = .exit 2 ∧ ∃ left', okLeft left' ∧ (0 ≤ left' → m.vars.length ≤ 20000 ∧ m.cons.length ≤ 20000 ∧ ∀ c ∈ m.cons, FewCon c) ∧ gt s.sl 0 = .ptr 0 1 0 0 ∧ gt s.sl 3 = .ptr 1 1 0 0 ∧ s.hp = [cnt left', .mem false [] [m.cells]]) (WI.loop 2 (by simp) (fun s => ∃ i left2, i ≤ m.cons.length ∧ okLeft left2 ∧ Cnt left' left2 i ∧ (0 ≤ left2 → ∀ c ∈ m.cons.take i, FewCon c) ∧ gt s.sl 0 = .ptr 0 1 0 0 ∧ gt s.sl 3 = .ptr 1 1 0 0 ∧ gt s.sl 5 = V.i i ∧ s.hp = [cnt left2, .mem false [] [m.cells]]) (fun s => (m.cons.length - (gt s.sl 5).num).toNat) ?_ ?_) ?_
    · exact ⟨0, left', by simp [g0, g3, h']; exact Cnt.refl _⟩
    · clear g0 g3
      rintro ⟨sl, hp, bs⟩ ⟨i, left2, hi, h2, hct, hall, g0, g3, g4, rfl⟩
      by_cases hil : i < m.cons.length
      · simp [hallmarkroom_Count_Model.b1, g0, g3, g4, Model.cells, vVars, vCons, vTerms, hil]
        refine DC.mono (ok_spec left2) fun r H' ⟨hr', hH⟩ => ?_
        subst hr' hH
        by_cases h0 : 0 ≤ left2
        · simp [h0, hil, Con.cells, vTerms, vInts, vIntss]
          refine DC.mono (cntCon2_spec left2 _ h2 (hc' _ (List.getElem_mem hil))) fun r H' ⟨left3, o, h3, hct3, hf3, hH⟩ => ?_
          subst hH
          have hw : IntKind.i64.wrap ((i : Int) + 1) = ((i + 1 : Nat) : Int) := by rw [wrap64] <;> omega
          simp [hw]
          refine ⟨⟨i + 1, by omega, _, h3, fun hb => ?_, fun hb c hcc => ?_, by omega, rfl⟩, by omega⟩
          · have := (hct.trans hct3) hb
            omega
          · rw [List.take_succ_eq_append_getElem hil] at hcc
            rcases List.mem_append.1 hcc with hcc | hcc
            · exact hall h0 c hcc
            · have : c = m.cons[i] := by simpa using hcc
              subst this
              exact hf3 hb
        · simp [h0]
          exact h2
      · obtain rfl : i = m.cons.length := by omega
        simp [hallmarkroom_Count_Model.b1, g0, g3, g4, Model.cells, vVars, vCons, vTerms]
        have hl2 := h'
        unfold okLeft at hl2
        refine ⟨h2, fun hb => ?_⟩
        have hx := hct hb
        exact ⟨hv0 hx.1, by omega, by simpa using hall hb⟩
    · clear g0 g3 h' hc0 hv0 left'
      rintro e ⟨sl, hp, bs⟩ ⟨rfl, left', h', hF, g0, g3, rfl⟩
      simp [g0, g3, Model.cells, vVars, vCons, vTerms]
      refine DC.mono (add_spec _ m.goal.length h' (by omega) (by omega)) fun r H' ⟨_, hH⟩ => ?_
      subst hH
      simp
      refine ⟨addL_ok h' (by omega) (by omega), fun hb => ?_⟩
      have hx := ((Cnt.refl left').add (k := m.goal.length) (by omega)) hb
      obtain ⟨f1, f2, f3⟩ := hF hx.1
      unfold okLeft at h'
      exact ⟨f1, f2, f3, by omega⟩

theorem few2_spec (m : Model) (values : List Int) (hm' : okModel m) (hv : values.length ≤ maxLen) :
    DP Tryz.prog hallmarklaw4_few.id [.agg m.cells, vInts values] (fun r => ∃ b, r = .bool b ∧ (b = true → FewM m ∧ values.length ≤ 20000)) := by
  have hm : (maxLen : Int) ≤ 9223372036854775807 := by decide
  refine DC.of hallmarklaw4_few.ok (by simp) ?_
  simp [hallmarklaw4_few.ir, hallmarklaw4_few.rs, Model.cells, vVars, vCons, vTerms, vInts]
  refine DC.mono (many_spec 20000) fun r H' ⟨hr', hH⟩ => ?_
  subst hr' hH
  simp
  refine DC.mono (cntModel2_spec 20000 m (by constructor <;> decide) hm') fun r H' ⟨left', o, h', hF, hH⟩ => ?_
  subst hH
  simp
  refine DC.mono (add_spec left' values.length h' (by omega) (by omega)) fun r H' ⟨_, hH⟩ => ?_
  subst hH
  simp
  refine DC.mono (ok_spec _) fun r H' ⟨hr', hH⟩ => ?_
  subst hr' hH
  simp
  rcases Int.lt_or_le (addL left' values.length) 0 with hb | hb
  · exact .inl hb
  · have hx := ((Cnt.refl left').add (k := values.length) (by omega)) hb
    unfold okLeft at h'
    exact .inr ⟨hb, hF hx.1, by omega⟩
end Go.Abs.G


/- A state in short; loops that count. -/
namespace Go.Abs
set_option linter.unusedVariables false

/-- What slots hold. -/
def Sls : List (Nat × V) → St → Prop
  | [], _ => True
  | [p], s => gt s.sl p.1 = p.2
  | p :: q :: l, s => gt s.sl p.1 = p.2 ∧ Sls (q :: l) s
/-- A state: its heap, and what slots hold. -/
def At (l : List (Nat × V)) (H : Heap) (s : St) : Prop := s.hp = H ∧ Sls l s

@[simp] theorem sls_nil (s : St) : Sls [] s = True := rfl
@[simp] theorem sls_one (p : Nat × V) (s : St) : Sls [p] s = (gt s.sl p.1 = p.2) := rfl
@[simp] theorem sls_cons (p q : Nat × V) (l : List (Nat × V)) (s : St) : Sls (p :: q :: l) s = (gt s.sl p.1 = p.2 ∧ Sls (q :: l) s) := rfl

theorem least {p : Nat → Prop} (h : ∃ n, p n) : ∃ n, p n ∧ ∀ k, p k → n ≤ k := by
  obtain ⟨n, hn⟩ := h
  induction n using Nat.strongRecOn with
  | ind n ih =>
    by_cases h : ∃ k, k < n ∧ p k
    · obtain ⟨k, hk, hp⟩ := h; exact ih k hk hp
    · exact ⟨n, hn, fun k hk => by
        by_cases hkn : n ≤ k
        · exact hkn
        · exact (h ⟨k, by omega, hk⟩).elim⟩

/-- A loop that counts to n, by what holds behind i rounds. -/
theorem WI.upto {P : Program} {c : C} {Q : Ex → St → Prop} {st : St} (m : Nat) (hm : st.hp.length ≤ m) (n : Nat) (I : Nat → St → Prop) (h0 : I 0 st)
    (hr : ∀ i s, i ≤ n → I i s → vc P c (fun e s' => match e with | .norm => i < n ∧ I (i + 1) (s'.trim m) | .exit k => Q (.exit k) s' | .ret => Q .ret s') s) : WI P (.loop c) Q st := by
  classical
  let μ : St → Nat := fun s => if h : ∃ k, k ≤ n ∧ I (n - k) s then Classical.choose (least h) else 0
  refine WI.loop m hm (fun s => ∃ i, i ≤ n ∧ I i s) μ ⟨0, Nat.zero_le _, h0⟩ ?_
  rintro s ⟨i, hi, hI⟩
  have hx : ∃ k, k ≤ n ∧ I (n - k) s := ⟨n - i, by omega, by rw [show n - (n - i) = i from by omega]; exact hI⟩
  obtain ⟨⟨k1, k2⟩, k3⟩ := Classical.choose_spec (least hx)
  have hμ : μ s = Classical.choose (least hx) := dif_pos hx
  rw [hμ]
  generalize Classical.choose (least hx) = k at *
  refine vc_mono (fun e s' he => ?_) (hr (n - k) s (by omega) k2)
  cases e with
  | norm =>
    obtain ⟨e1, e2⟩ := he
    refine ⟨⟨_, by omega, e2⟩, ?_⟩
    have hy : ∃ q, q ≤ n ∧ I (n - q) (s'.trim m) := ⟨k - 1, by omega, by rw [show n - (k - 1) = n - k + 1 from by omega]; exact e2⟩
    have hμ' : μ (s'.trim m) = Classical.choose (least hy) := dif_pos hy
    rw [hμ']
    have := (Classical.choose_spec (least hy)).2 (k - 1) ⟨by omega, by rw [show n - (k - 1) = n - k + 1 from by omega]; exact e2⟩
    omega
  | exit j => exact he
  | ret => exact he

/-- The same, of what comes behind. -/
theorem vc_upto {P : Program} {c : C} {Q : Ex → St → Prop} {st : St} (m : Nat) (hm : st.hp.length ≤ m) (n : Nat) (I : Nat → St → Prop) (h0 : I 0 st)
    (hr : ∀ i s, i ≤ n → I i s → vc P c (fun e s' => match e with | .norm => i < n ∧ I (i + 1) (s'.trim m) | .exit k => Q (.exit k) s' | .ret => Q .ret s') s) : vc P (.loop c) Q st := WI.upto m hm n I h0 hr

/-- A contract that gives just this, over just this. -/
theorem DC.to {P : Program} {f : FuncId} {xs : List V} {H : Heap} {r : V} {H' : Heap} {Q : V → Heap → Prop} (h : DC P f xs H fun x K => x = r ∧ K = H') (hq : Q r H') : DC P f xs H Q :=
  DC.mono h fun x K ⟨a, b⟩ => by rw [a, b]; exact hq

/-! What each operation asks, but for calls. -/
section
variable {P : Program} {k : St → Prop} {st : St} {d : Option Nat} {x y v n m key : Operand} {l : L} {t es r len bytes : Nat} {ts ap : List Nat} {zero : List V} {parts : List (Nat × Operand)} {kd : IntKind}
@[simp] theorem vc_lt : I.vc P (.lt d l) k st = (l.pre st ∧ k (st.put d (l.val st))) := rfl
@[simp] theorem vc_frz : I.vc P (.frz t) k st = (if (gt st.sl t).ids = [] then k st else (gt st.sl t).fzP st.hp ∧ k { st with sl := up st.sl t ((gt st.sl t).fz st.hp), hp := st.hp.fz (gt st.sl t).ids }) := rfl
@[simp] theorem vc_nilv : I.vc P (.nilv t es) k st = k { st with sl := up st.sl t (if (gt st.sl t).nilSl then .view es [] else gt st.sl t) } := rfl
@[simp] theorem vc_keep : I.vc P (.keep ts) k st = k { st with sl := keepS st.sl ts } := rfl
@[simp] theorem vc_wk : I.vc P .wk k st = (∃ st', Weak st st' ∧ k st') := rfl
@[simp] theorem vc_alloc : I.vc P (.alloc d r len zero) k st = (st.hp[st.bs + r]? = some .res ∧ zero.length = len ∧ k ({ st with hp := st.hp.set (st.bs + r) (.mem false [] [zero]) }.put d (.ptr (st.bs + r) 1 0 0))) := rfl
@[simp] theorem vc_box : I.vc P (.box d r len x) k st = (st.hp[st.bs + r]? = some .res ∧ (st.ev x).sized st.hp len ∧
      k ({ st with hp := st.hp.set (st.bs + r) (.mem false (V.idsL (st.ev x).cells) [(st.ev x).cells]) }.put d (.ptr (st.bs + r) 1 0 0))) := rfl
@[simp] theorem vc_bsl : I.vc P (.bsl d r es len zero parts) k st = (st.hp[st.bs + r]? = some .res ∧ zero.length = es ∧ (∀ p ∈ parts, (st.ev p.2).sized st.hp es ∧ p.1 < len) ∧
      k ({ st with hp := st.hp.set (st.bs + r) (.mem false (V.idsL (fillV (List.flatten (List.replicate len zero)) (parts.map fun (p : Nat × Operand) => (p.1 * es, es, st.ev p.2)))) (chunk es len (fillV (List.flatten (List.replicate len zero)) (parts.map fun (p : Nat × Operand) => (p.1 * es, es, st.ev p.2))))) }.put d (.own (st.bs + r) es 0 len len))) := rfl
@[simp] theorem vc_bsv : I.vc P (.bsv d es len zero parts) k st = (zero.length = es ∧ (∀ p ∈ parts, V.idsL (st.ev p.2).cells = [] ∧ (st.ev p.2).sized st.hp es ∧ p.1 < len) ∧
      k (st.put d (I.bsvV es len zero (parts.map fun (p : Nat × Operand) => (p.1 * es, es, st.ev p.2))))) := rfl
@[simp] theorem vc_mkm : I.vc P (.mkm d r) k st = (st.hp[st.bs + r]? = some .res ∧ k ({ st with hp := st.hp.set (st.bs + r) (.map false [] []) }.put d (.mp (st.bs + r)))) := rfl
@[simp] theorem vc_mks : I.vc P (.mks d r es bytes zero n) k st = (st.hp[st.bs + r]? = some .res ∧ zero.length = es ∧ (∃ m, st.ev n = .a (.int .i64 m)) ∧ 0 ≤ (st.ev n).num ∧ (st.ev n).num * bytes ≤ 140737488355328 ∧
      k ({ st with hp := st.hp.set (st.bs + r) (.mem false [] (List.replicate (st.ev n).num.toNat zero)) }.put d (.own (st.bs + r) es 0 (st.ev n).num.toNat (st.ev n).num.toNat))) := rfl
@[simp] theorem vc_pan : I.vc P .pan k st = False := rfl
@[simp] theorem vc_store : I.vc P (.store ap len x v) k st = (match st.ev x with
    | .ptr id tot i j => match st.hp.getD id .dead with
      | .mem false refs rows => (∀ t ∈ ap, (gt st.sl t).oid ≠ some id) ∧ rows.length = tot ∧ i < tot ∧ j + len ≤ (rows.getD i []).length ∧ (st.ev v).sized st.hp len ∧
          k { st with hp := st.hp.set id (.mem false (addRefs refs (V.idsL (st.ev v).cells)) (rows.set i (rowSet (rows.getD i []) j (st.ev v).cells))) }
      | _ => False
    | _ => False) := rfl
@[simp] theorem vc_app : I.vc P (.app ap d r es bytes x y) k st = (match st.ev x with
    | .own id es' off len tot => match st.hp.getD id .dead with
      | .mem false refs rows => (∀ t ∈ ap, (gt st.sl t).oid ≠ some id) ∧ es' = es ∧ rows.length = tot ∧ off + len = tot ∧ okSl st.hp (st.ev y) ∧ (st.ev y).slEs es ∧ ((len : Int) + (st.ev y).slLen) * bytes ≤ 140737488355328 ∧
          k ({ st with hp := st.hp.set id (.mem false (addRefs refs ((st.ev y).rowIds st.hp)) (rows ++ (st.ev y).rowsOf st.hp)) }.put d (.own id es off (len + ((st.ev y).rowsOf st.hp).length) (tot + ((st.ev y).rowsOf st.hp).length)))
      | _ => False
    | .a (.slice none 0 0) => st.hp[st.bs + r]? = some .res ∧ okSl st.hp (st.ev y) ∧ (st.ev y).slEs es ∧ (st.ev y).slLen * bytes ≤ 140737488355328 ∧
          k ({ st with hp := st.hp.set (st.bs + r) (.mem false ((st.ev y).rowIds st.hp) ((st.ev y).rowsOf st.hp)) }.put d (.own (st.bs + r) es 0 ((st.ev y).rowsOf st.hp).length ((st.ev y).rowsOf st.hp).length))
    | .nul es' => es' = es ∧ st.hp[st.bs + r]? = some .res ∧ okSl st.hp (st.ev y) ∧ (st.ev y).slEs es ∧ (st.ev y).slLen * bytes ≤ 140737488355328 ∧
          (if ((st.ev y).rowsOf st.hp).isEmpty = true then k (st.put d (.nul es)) else
            k ({ st with hp := st.hp.set (st.bs + r) (.mem false ((st.ev y).rowIds st.hp) ((st.ev y).rowsOf st.hp)) }.put d (.own (st.bs + r) es 0 ((st.ev y).rowsOf st.hp).length ((st.ev y).rowsOf st.hp).length)))
    | _ => False) := rfl
@[simp] theorem vc_cpy : I.vc P (.cpy d es x y) k st = (match st.ev x with
    | .own id es' off len tot => match st.hp.getD id .dead with
      | .mem false refs rows => es' = es ∧ rows.length = tot ∧ off + len ≤ tot ∧ okSl st.hp (st.ev y) ∧ (st.ev y).slEs es ∧ (st.ev y).slLen ≤ len ∧
          k ({ st with hp := st.hp.set id (.mem false (addRefs refs ((st.ev y).rowIds st.hp)) (rows.take off ++ (st.ev y).rowsOf st.hp ++ rows.drop (off + ((st.ev y).rowsOf st.hp).length))) }.put d (.a (.int .i64 (st.ev y).slLen)))
      | _ => False
    | _ => False) := rfl
@[simp] theorem vc_mup : I.vc P (.mup ap kd m key v) k st = (match st.ev m with
    | .mp id => match st.hp.getD id .dead with
      | .map false refs es => (∀ t ∈ ap, (gt st.sl t).oid ≠ some id) ∧ (∀ e ∈ es, e.1.isKey kd = true) ∧ (st.ev key).isKey kd = true ∧
          k { st with hp := st.hp.set id (.map false (addRefs refs (V.idsL [st.ev v])) (putE es (st.ev key) (st.ev v))) }
      | _ => False
    | _ => False) := rfl

/-! Calls. -/
variable {f : FuncId} {xs : List Operand}
theorem call_go {r0 : V} {zs : List V} (hc : Pf P f zs r0) (ha : xs.map st.ev = zs) (hi : V.idsL zs = []) (hk : k (st.put d r0)) : I.vc P (.call d f xs) k st := by
  subst ha; exact ⟨hi, hc.use hk⟩
theorem callm_gen {zs : List V} {H0 : Heap} {Q : V → Heap → Prop} (hc : DC P f zs H0 Q) (sel : List Nat) (hs : clos st.hp 8 (addAll [] (V.idsL (xs.map st.ev))) = sel) (hok : OkSel st.hp sel) (ha : V.renL (idx sel) (xs.map st.ev) = zs) (hH : sub st.hp sel = H0)
    (hf : okFunc P f = true) (hk : ∀ r H', Q r H' → k ({ st with hp := merge st.hp sel H' }.put d (r.ren (back sel st.hp.length)))) : I.vc P (.callm d (.func f) xs) k st := by
  rw [callm_fn]; subst hs ha hH; exact ⟨hf, hok, hc.mono hk⟩
end

/-- An object that names no other. -/
structure O.clo (o : O) : Prop where
  refs : o.refs = []
  ren : ∀ f, o.ren f = o
  nres : o ≠ .res
theorem set_same {H : Heap} {k : Nat} {o : O} (h : H[k]? = some o) : H.set k o = H := by
  obtain ⟨hl, he⟩ := List.getElem?_eq_some_iff.1 h
  rw [← he]; exact List.set_getElem_self hl
section
variable {P : Program} {k : St → Prop} {st : St} {d : Option Nat} {ap : List Nat} {f : FuncId} {xs : List Operand}
end
end Go.Abs

/- Contracts: of what a call leaves, the objects that its caller wants, numbered anew. -/
namespace Go.Abs
set_option linter.unusedVariables false

theorem HOK.less {hp : Array Obj} {H : Heap} {β : Nat → Hd} {F F' : Nat → Prop} (hk : HOK hp H β F) (h : ∀ b, F' b → F b) : HOK hp H β F' ∧ (cx hp H β F).le (cx hp H β F') := by
  have hle : (cx hp H β F).le (cx hp H β F') := ⟨Nat.le_refl _, fun b hb hn => ⟨rfl, fun e => hn (e.imp id (h b))⟩, fun _ h => h, fun _ _ _ e => .inl e⟩
  exact ⟨⟨fun i o ho => (hk.ro i o ho).mono hle rfl (fun hn e => hn (e.imp (fun x => x) (h _))) fun _ _ _ _ _ _ => rfl, hk.one, fun b hb => hk.far b (h b hb)⟩, hle⟩

theorem DC.pick {P : Program} {f : FuncId} {xs : List V} {H : Heap} {Q Q' : V → Heap → Prop} (h : DC P f xs H Q)
    (hq : ∀ x H', Q x H' → ∃ sel, OkSel H' sel ∧ (∀ i, i < H.length → sel[i]? = some i) ∧ (∀ i ∈ x.ids, i ∈ sel) ∧ Q' (x.ren (idx sel)) (Abs.sub H' sel)) : DC P f xs H Q' := fun w β F vs hk hr =>
  (h w β F vs hk hr).mono fun e w' ⟨r, x, H', β2, h1, h2, h3, h4⟩ => by
    obtain ⟨sel, ok, hn, hx, hQ⟩ := hq x H' h4
    obtain ⟨k1, k2⟩ := (sub_ok h2.hok ok).less (F' := F) fun b hb => .inl hb
    have hsub : ∀ id, id < H.length → (Abs.sub H' sel)[id]? = (H'[id]?).map (O.ren (idx sel)) ∧ βsub β2 sel id = β2 id := fun id hid => by
      obtain ⟨h5, h6⟩ := List.getElem?_eq_some_iff.1 (hn id hid)
      have h7 : sel.getD id 0 = id := by simp [List.getD, hn id hid]
      exact ⟨by rw [sub_get ok h5, h7], by unfold βsub; rw [h7]⟩
    refine ⟨r, _, _, βsub β2 sel, h1, ⟨k1, ⟨h2.le.size, fun b hb hno => ⟨(h2.le.same b hb hno).1, fun e => (h2.le.same b hb hno).2 ?_⟩, fun id hl => ?_, fun id g' hl e => ?_⟩, h2.ext⟩, ?_, hQ⟩
    · rcases e with ⟨j, e⟩ | e
      · exact .inl ⟨_, (owns_sub ok e).2⟩
      · exact .inr e
    · have hlt : id < H.length := by obtain ⟨o, e, _⟩ := hl; exact lt_of_get e
      exact (liveIn_ren (hsub id hlt).1).2 (h2.le.live id hl)
    · have hlt : id < H.length := by obtain ⟨o, e, _⟩ := hl; exact lt_of_get e
      refine h2.le.hd id g' hl ?_
      have e' : hdOf (Abs.sub H' sel) (βsub β2 sel) id = some g' := e
      rw [hdOf_ren (hsub id hlt).1 (hsub id hlt).2] at e'
      exact e'
    · have h5 := (h3.onlyOf x.ids fun i hi => hi).ren (ren_sub (w := w') (F := F) ok hx)
      exact h5.up.mono k2

end Go.Abs

/- Many objects at once. -/
namespace Go.Abs
set_option linter.unusedVariables false
section
variable {w : World} {β : Nat → Hd} {F : Nat → Prop} {H : Heap}
end
end Go.Abs

/- A struct whose second cell is a nil slice, as one that owns a slice there. -/
namespace Go.Abs
set_option linter.unusedVariables false

section
variable {w : World} {β : Nat → Hd} {F : Nat → Prop} {H : Heap}
end

end Go.Abs

/- The objects that a struct's cells may name, told closer. -/
namespace Go.Abs
set_option linter.unusedVariables false
end Go.Abs

/- A slice of one's own of no elements, of memory that has some. -/
namespace Go.Abs
set_option linter.unusedVariables false
end Go.Abs

/- An argument nil, as a slice of one's own without elements. -/
namespace Go.Abs
set_option linter.unusedVariables false
end Go.Abs

namespace Go.Abs.G
open Go.Proofs
set_option linter.unusedVariables false
set_option linter.unusedSimpArgs false
attribute [local simp] I.vc

end Go.Abs.G


namespace Go.Abs.G
open Go.Proofs
set_option linter.unusedVariables false
set_option linter.unusedSimpArgs false

section
variable {s : List Dom} {rf : List Nat} {R : List (List V)} {Es L : Heap} {n c : Nat}
end

/-- A copy's slice of marks: where each lies. -/
def cR (b : Nat) (ms : List (List Dom)) (i : Nat) : List (List V) := ((ms.take i).zipIdx).map fun p => [.own (b + 3 * p.2) 4 0 p.1.length p.1.length]
/-- What stands behind i marks copied, behind the original. -/
inductive CI (s : List Dom) (ms : List (List Dom)) (n : Nat) : Nat → Heap → Prop where
  | zero {i : Nat} (hi : i = 0) : CI s ms n i [.mem false [n + 1] [[.own (n + 1) 4 0 s.length s.length, nilS]], .mem false [] (s.map Dom.row)]
  | some {i : Nat} {rf rf' : List Nat} {G : O} {T : Heap} (hi : 0 < i) (hl : T.length = 3 * i - 2) (hk : ∀ j L, j < i → ms[j]? = some L → T[3 * j]? = some (.mem false [] (L.map Dom.row)))
      (hr : ∀ r ∈ rf, r < n + 4 + 3 * i) (hr' : ∀ r ∈ rf', r < n + 4 + 3 * i) : CI s ms n i (.mem false rf [[.own (n + 1) 4 0 s.length s.length, .own (n + 3) 1 0 i i]] :: .mem false [] (s.map Dom.row) :: G :: .mem false rf' (cR (n + 4) ms i) :: T)

theorem CI.len {s : List Dom} {ms : List (List Dom)} {n i : Nat} {E : Heap} (h : CI s ms n i E) : E.length = 2 + 3 * i := by
  cases h with
  | zero hi => simp [hi]
  | some hi hl hk hr hr' => simp [hl]; omega
theorem limO_of {m : Nat} {o : O} (h : ∀ r ∈ o.refs, r < m) : limO m o = o := by
  unfold limO; rw [if_pos (List.all_eq_true.2 fun r hr => by simpa using h r hr)]
theorem CI.trim {s : List Dom} {ms : List (List Dom)} {n i m : Nat} {E : Heap} (h : CI s ms n i E) (hm : n + 4 + 3 * i ≤ m) : CI s ms n i (E.map (limO m)) := by
  cases h with
  | zero hi =>
    rw [List.map_cons, List.map_cons, List.map_nil, limO_of (by simp [O.refs]; omega), limO_of (by simp [O.refs])]
    exact .zero hi
  | some hi hl hk hr hr' =>
    rw [List.map_cons, List.map_cons, List.map_cons, List.map_cons, limO_of (fun r h => by have := hr r h; omega), limO_of (by simp [O.refs]), limO_of (o := .mem false _ (cR (n + 4) ms i)) (fun r h => by have := hr' r h; omega)]
    refine .some hi (by simpa using hl) (fun j L hj hL => ?_) hr hr'
    rw [List.getElem?_map, hk j L hj hL, Option.map_some, limO_of (by simp [O.refs])]
end Go.Abs.G


namespace Go.Abs.G
open Go.Proofs
set_option linter.unusedVariables false
set_option linter.unusedSimpArgs false

end Go.Abs.G


namespace Go.Abs.G
open Go.Proofs
set_option linter.unusedVariables false
set_option linter.unusedSimpArgs false

end Go.Abs.G


namespace Go.Abs.G
open Go.Proofs
set_option linter.unusedVariables false
set_option linter.unusedSimpArgs false

/-- A store that lies open somewhere. -/
structure Uat (H : Heap) (s : List Dom) (T : List (List Ce)) (p a b : Nat) : Prop where
  h0 : H[p]? = some (.mem false [a, b] [[.own a 4 0 s.length s.length, .own b 1 0 T.length T.length]])
  h1 : H[a]? = some (.mem false [] (s.map Dom.row))
  h2 : H[b]? = some (.tree [] T)
  na : p ≠ a
  nb : p ≠ b
  nab : a ≠ b

section
variable {H : Heap} {s : List Dom} {T : List (List Ce)} {p a b : Nat}
theorem Uat.sub (h : Uat H s T p a b) (hT : ∀ f, Ce.renR f T = T) : Abs.sub H [p, a, b] = U s T := by
  have i1 : idx [p, a, b] a = 1 := by simp [idx, List.idxOf_cons, beq_false_of_ne h.na]
  have i2 : idx [p, a, b] b = 2 := by simp [idx, List.idxOf_cons, beq_false_of_ne h.nb, beq_false_of_ne h.nab]
  simp [-idx, Abs.sub, getD_some h.h0, getD_some h.h1, getD_some h.h2, h.h0, h.h1, h.h2, O.ren, V.renL, V.ren, i1, i2, hT, U, Function.comp_def]
theorem Uat.ok (h : Uat H s T p a b) : OkSel H [p, a, b] := by
  refine ⟨by simp [h.na, h.nb, h.nab], fun i hi => ?_, fun i hi => ?_, fun i hi k hk => ?_⟩ <;> (simp only [List.mem_cons, List.not_mem_nil, or_false] at hi)
  · rcases hi with rfl | rfl | rfl
    · exact lt_of_get h.h0
    · exact lt_of_get h.h1
    · exact lt_of_get h.h2
  · rcases hi with rfl | rfl | rfl
    · rw [getD_some h.h0]; simp
    · rw [getD_some h.h1]; simp
    · rw [getD_some h.h2]; simp
  · rcases hi with rfl | rfl | rfl
    · rw [getD_some h.h0] at hk; simp [O.refs] at hk ⊢; exact .inr hk
    · rw [getD_some h.h1] at hk; simp [O.refs] at hk
    · rw [getD_some h.h2] at hk; simp [O.refs] at hk
theorem Uat.clos (h : Uat H s T p a b) : clos H 8 [p] = [p, a, b] := by
  have h3 : ∀ n, Abs.clos H n [p, a, b] = [p, a, b] := fun n => clos_stop H n _ h.ok.cl
  have cs : ∀ n l, Abs.clos H (n + 1) l = Abs.clos H n (addAll l (l.flatMap fun i => (H.getD i .dead).refs)) := fun _ _ => rfl
  rw [cs 7]
  simp only [List.flatMap_cons, List.flatMap_nil, getD_some h.h0, O.refs, List.append_nil]
  have : addAll [p] [a, b] = [p, a, b] := by simp [addAll, Ne.symm h.na, Ne.symm h.nb, Ne.symm h.nab]
  rw [this]; exact h3 7
theorem Uat.merge (h : Uat H s T p a b) (hT : ∀ f, Ce.renR f T = T) : merge H [p, a, b] (U s T) = H := by
  have i1 : back [p, a, b] H.length 1 = a := rfl
  have i2 : back [p, a, b] H.length 2 = b := rfl
  have e0 : O.ren (back [p, a, b] H.length) (.mem false [1, 2] [[.own 1 4 0 s.length s.length, .own 2 1 0 T.length T.length]]) = .mem false [a, b] [[.own a 4 0 s.length s.length, .own b 1 0 T.length T.length]] := by simp [O.ren, V.renL, V.ren, i1, i2]
  have e1 : O.ren (back [p, a, b] H.length) (.mem false [] (s.map Dom.row)) = .mem false [] (s.map Dom.row) := by simp [O.ren, Function.comp_def]
  have e2 : O.ren (back [p, a, b] H.length) (.tree [] T) = .tree [] T := by simp [O.ren, hT]
  simp only [Abs.merge, U, List.length_cons, List.length_nil, Nat.zero_add, Nat.reduceAdd, List.take_succ_cons, List.take_zero, List.map_cons, List.map_nil, List.drop_succ_cons, List.drop_zero, List.append_nil, e0, e1, e2, place]
  rw [set_same h.h0, set_same h.h1, set_same h.h2]
end

end Go.Abs.G


namespace Go.Abs.G
open Go.Proofs
set_option linter.unusedVariables false
set_option linter.unusedSimpArgs false

@[simp] theorem St1_lim (n : Nat) (s : List Dom) (T : List (List Ce)) : limO n (St1 s T) = St1 s T := by simp [St1, limO, O.refs]

end Go.Abs.G


/- Evaluation that leaves what comes behind alone. -/
namespace Go.Abs
set_option linter.unusedVariables false

def vcF (P : Program) (c : C) (Q : Ex → St → Prop) [Fix Q] (st : St) : Prop := vc P c Q st
def vcItsF (P : Program) (l : List It) (k : St → Prop) [Fix k] (st : St) : Prop := vcIts P l k st
def IvcF (P : Program) (i : I) (k : St → Prop) [Fix k] (st : St) : Prop := i.vc P k st

section
variable {P : Program} {Q : Ex → St → Prop} {st : St} {x : Operand} {a b c : C} {k : St → Prop} {l its : List It} {j t n id : Nat} {want : Bool} {d : Option Nat} {i : I}
@[simp ↓ high] theorem vcF_of : vc P c Q st = vcF P c Q st := propext Iff.rfl
@[simp ↓ high] theorem vcItsF_of : vcIts P l k st = vcItsF P l k st := propext Iff.rfl
@[simp ↓ high] theorem IvcF_of : I.vc P i k st = IvcF P i k st := propext Iff.rfl
@[simp] theorem vcF_skip : vcF P .skip Q st = Q .norm st := propext Iff.rfl
@[simp] theorem vcF_reg : vcF P (.reg n its) Q st = vcItsF P its (Q .norm) (st.res n) := propext Iff.rfl
@[simp] theorem vcF_seq : vcF P (.seq a b) Q st = vcF P a (fun e s => match e with | .norm => vcF P b Q s | .exit i => Q (.exit i) s | .ret => Q .ret s) st := propext Iff.rfl
@[simp] theorem vcF_block : vcF P (.block id c) Q st = vcF P c (fun e s => match e with | .norm => Q .norm s | .exit i => if i = id then Q .norm s else Q (.exit i) s | .ret => Q .ret s) st := propext Iff.rfl
@[simp] theorem vcF_exit : vcF P (.exit id) Q st = Q (.exit id) st := propext Iff.rfl
@[simp] theorem vcF_ret : vcF P .ret Q st = Q .ret st := propext Iff.rfl
@[simp] theorem vcF_cond_true (h : st.ev x = .a (.bool true)) : vcF P (.cond x a b) Q st = vcF P a Q st := by
  unfold vcF; simp only [vc, h]; exact propext ⟨fun q => q.1 trivial, fun q => ⟨fun _ => q, fun e => by cases e⟩⟩
@[simp] theorem vcF_cond_false (h : st.ev x = .a (.bool false)) : vcF P (.cond x a b) Q st = vcF P b Q st := by
  unfold vcF; simp only [vc, h]; exact propext ⟨fun q => q.2 trivial, fun q => ⟨(fun e => by cases e), fun _ => q⟩⟩
@[simp] theorem vcItsF_nil : vcItsF P [] k st = k st := propext Iff.rfl
@[simp] theorem vcItsF_g : vcItsF P (.g i :: l) k st = IvcF P i (vcItsF P l k) st := propext Iff.rfl
@[simp] theorem vcItsF_o : vcItsF P (.o j i :: l) k st = IvcF P i (vcItsF P l k) st := propext Iff.rfl
@[simp] theorem vcItsF_gd_pos (h : gt st.sl t = .a (.bool want)) : vcItsF P (.gd j t want d i :: l) k st = IvcF P i (vcItsF P l k) (st.put (some t) (.bool want)) := by
  unfold vcItsF IvcF; simp only [vcIts, h]; exact propext ⟨fun q => q.1 trivial, fun q => ⟨fun _ => q, fun e => by cases want <;> cases e⟩⟩
@[simp] theorem vcItsF_gd_neg (h : gt st.sl t = .a (.bool (!want))) : vcItsF P (.gd j t want d i :: l) k st = vcItsF P l k ((st.put (some t) (.bool !want)).put d (.a undef)) := by
  unfold vcItsF; simp only [vcIts, h]; exact propext ⟨fun q => q.2 trivial, fun q => ⟨(fun e => by cases want <;> cases e), fun _ => q⟩⟩
@[simp] theorem vcItsF_gd_un (h : gt st.sl t = .a (.tuple #[])) : vcItsF P (.gd j t want d i :: l) k st = vcItsF P l k (st.put d (.a undef)) := by unfold vcItsF; simp only [vcIts, h]
end
/-! What each operation asks, but for calls. -/
section
variable {P : Program} {k : St → Prop} {st : St} {d : Option Nat} {x y v n m key : Operand} {l : L} {t es r len bytes : Nat} {ts ap : List Nat} {zero : List V} {parts : List (Nat × Operand)} {kd : IntKind}
@[simp] theorem F_lt : IvcF P (.lt d l) k st = (l.pre st ∧ k (st.put d (l.val st))) := propext Iff.rfl
@[simp] theorem F_frz : IvcF P (.frz t) k st = (if (gt st.sl t).ids = [] then k st else (gt st.sl t).fzP st.hp ∧ k { st with sl := up st.sl t ((gt st.sl t).fz st.hp), hp := st.hp.fz (gt st.sl t).ids }) := propext Iff.rfl
@[simp] theorem F_nilv : IvcF P (.nilv t es) k st = k { st with sl := up st.sl t (if (gt st.sl t).nilSl then .view es [] else gt st.sl t) } := propext Iff.rfl
@[simp] theorem F_keep : IvcF P (.keep ts) k st = k { st with sl := keepS st.sl ts } := propext Iff.rfl
@[simp] theorem F_wk : IvcF P .wk k st = (∃ st', Weak st st' ∧ k st') := propext Iff.rfl
@[simp] theorem F_alloc : IvcF P (.alloc d r len zero) k st = (st.hp[st.bs + r]? = some .res ∧ zero.length = len ∧ k ({ st with hp := st.hp.set (st.bs + r) (.mem false [] [zero]) }.put d (.ptr (st.bs + r) 1 0 0))) := propext Iff.rfl
@[simp] theorem F_box : IvcF P (.box d r len x) k st = (st.hp[st.bs + r]? = some .res ∧ (st.ev x).sized st.hp len ∧
      k ({ st with hp := st.hp.set (st.bs + r) (.mem false (V.idsL (st.ev x).cells) [(st.ev x).cells]) }.put d (.ptr (st.bs + r) 1 0 0))) := propext Iff.rfl
@[simp] theorem F_bsl : IvcF P (.bsl d r es len zero parts) k st = (st.hp[st.bs + r]? = some .res ∧ zero.length = es ∧ (∀ p ∈ parts, (st.ev p.2).sized st.hp es ∧ p.1 < len) ∧
      k ({ st with hp := st.hp.set (st.bs + r) (.mem false (V.idsL (fillV (List.flatten (List.replicate len zero)) (parts.map fun (p : Nat × Operand) => (p.1 * es, es, st.ev p.2)))) (chunk es len (fillV (List.flatten (List.replicate len zero)) (parts.map fun (p : Nat × Operand) => (p.1 * es, es, st.ev p.2))))) }.put d (.own (st.bs + r) es 0 len len))) := propext Iff.rfl
@[simp] theorem F_bsv : IvcF P (.bsv d es len zero parts) k st = (zero.length = es ∧ (∀ p ∈ parts, V.idsL (st.ev p.2).cells = [] ∧ (st.ev p.2).sized st.hp es ∧ p.1 < len) ∧
      k (st.put d (I.bsvV es len zero (parts.map fun (p : Nat × Operand) => (p.1 * es, es, st.ev p.2))))) := propext Iff.rfl
@[simp] theorem F_mkm : IvcF P (.mkm d r) k st = (st.hp[st.bs + r]? = some .res ∧ k ({ st with hp := st.hp.set (st.bs + r) (.map false [] []) }.put d (.mp (st.bs + r)))) := propext Iff.rfl
@[simp] theorem F_mks : IvcF P (.mks d r es bytes zero n) k st = (st.hp[st.bs + r]? = some .res ∧ zero.length = es ∧ (∃ m, st.ev n = .a (.int .i64 m)) ∧ 0 ≤ (st.ev n).num ∧ (st.ev n).num * bytes ≤ 140737488355328 ∧
      k ({ st with hp := st.hp.set (st.bs + r) (.mem false [] (List.replicate (st.ev n).num.toNat zero)) }.put d (.own (st.bs + r) es 0 (st.ev n).num.toNat (st.ev n).num.toNat))) := propext Iff.rfl
@[simp] theorem F_pan : IvcF P .pan k st = False := propext Iff.rfl
@[simp] theorem F_store : IvcF P (.store ap len x v) k st = (match st.ev x with
    | .ptr id tot i j => match st.hp.getD id .dead with
      | .mem false refs rows => (∀ t ∈ ap, (gt st.sl t).oid ≠ some id) ∧ rows.length = tot ∧ i < tot ∧ j + len ≤ (rows.getD i []).length ∧ (st.ev v).sized st.hp len ∧
          k { st with hp := st.hp.set id (.mem false (addRefs refs (V.idsL (st.ev v).cells)) (rows.set i (rowSet (rows.getD i []) j (st.ev v).cells))) }
      | _ => False
    | _ => False) := propext Iff.rfl
@[simp] theorem F_app : IvcF P (.app ap d r es bytes x y) k st = (match st.ev x with
    | .own id es' off len tot => match st.hp.getD id .dead with
      | .mem false refs rows => (∀ t ∈ ap, (gt st.sl t).oid ≠ some id) ∧ es' = es ∧ rows.length = tot ∧ off + len = tot ∧ okSl st.hp (st.ev y) ∧ (st.ev y).slEs es ∧ ((len : Int) + (st.ev y).slLen) * bytes ≤ 140737488355328 ∧
          k ({ st with hp := st.hp.set id (.mem false (addRefs refs ((st.ev y).rowIds st.hp)) (rows ++ (st.ev y).rowsOf st.hp)) }.put d (.own id es off (len + ((st.ev y).rowsOf st.hp).length) (tot + ((st.ev y).rowsOf st.hp).length)))
      | _ => False
    | .a (.slice none 0 0) => st.hp[st.bs + r]? = some .res ∧ okSl st.hp (st.ev y) ∧ (st.ev y).slEs es ∧ (st.ev y).slLen * bytes ≤ 140737488355328 ∧
          k ({ st with hp := st.hp.set (st.bs + r) (.mem false ((st.ev y).rowIds st.hp) ((st.ev y).rowsOf st.hp)) }.put d (.own (st.bs + r) es 0 ((st.ev y).rowsOf st.hp).length ((st.ev y).rowsOf st.hp).length))
    | .nul es' => es' = es ∧ st.hp[st.bs + r]? = some .res ∧ okSl st.hp (st.ev y) ∧ (st.ev y).slEs es ∧ (st.ev y).slLen * bytes ≤ 140737488355328 ∧
          (if ((st.ev y).rowsOf st.hp).isEmpty = true then k (st.put d (.nul es)) else
            k ({ st with hp := st.hp.set (st.bs + r) (.mem false ((st.ev y).rowIds st.hp) ((st.ev y).rowsOf st.hp)) }.put d (.own (st.bs + r) es 0 ((st.ev y).rowsOf st.hp).length ((st.ev y).rowsOf st.hp).length)))
    | _ => False) := propext Iff.rfl
@[simp] theorem F_cpy : IvcF P (.cpy d es x y) k st = (match st.ev x with
    | .own id es' off len tot => match st.hp.getD id .dead with
      | .mem false refs rows => es' = es ∧ rows.length = tot ∧ off + len ≤ tot ∧ okSl st.hp (st.ev y) ∧ (st.ev y).slEs es ∧ (st.ev y).slLen ≤ len ∧
          k ({ st with hp := st.hp.set id (.mem false (addRefs refs ((st.ev y).rowIds st.hp)) (rows.take off ++ (st.ev y).rowsOf st.hp ++ rows.drop (off + ((st.ev y).rowsOf st.hp).length))) }.put d (.a (.int .i64 (st.ev y).slLen)))
      | _ => False
    | _ => False) := propext Iff.rfl
@[simp] theorem F_mup : IvcF P (.mup ap kd m key v) k st = (match st.ev m with
    | .mp id => match st.hp.getD id .dead with
      | .map false refs es => (∀ t ∈ ap, (gt st.sl t).oid ≠ some id) ∧ (∀ e ∈ es, e.1.isKey kd = true) ∧ (st.ev key).isKey kd = true ∧
          k { st with hp := st.hp.set id (.map false (addRefs refs (V.idsL [st.ev v])) (putE es (st.ev key) (st.ev v))) }
      | _ => False
    | _ => False) := propext Iff.rfl

end

/-! Calls, as steps. -/
section
variable {P : Program} {k : St → Prop} {st : St} {d : Option Nat} {ap : List Nat} {f : FuncId} {xs : List Operand}
theorem gcall {r0 : V} {zs : List V} (hc : Pf P f zs r0) (ha : xs.map st.ev = zs) (hi : V.idsL zs = []) (hk : k (st.put d r0)) : IvcF P (.call d f xs) k st := call_go hc ha hi hk
theorem gcall_gen {zs : List V} {Q : V → Prop} (hc : DP P f zs Q) (ha : xs.map st.ev = zs) (hi : V.idsL zs = []) (hk : ∀ r, Q r → k (st.put d r)) : IvcF P (.call d f xs) k st := by
  subst ha; exact ⟨hi, hc.mono hk⟩
theorem gcallm_gen {zs : List V} {H0 : Heap} {Q : V → Heap → Prop} (hc : DC P f zs H0 Q) (sel : List Nat) (hs : clos st.hp 8 (addAll [] (V.idsL (xs.map st.ev))) = sel) (hok : OkSel st.hp sel) (ha : V.renL (idx sel) (xs.map st.ev) = zs) (hH : sub st.hp sel = H0)
    (hf : okFunc P f = true) (hk : ∀ r H', Q r H' → k ({ st with hp := merge st.hp sel H' }.put d (r.ren (back sel st.hp.length)))) : IvcF P (.callm d (.func f) xs) k st := callm_gen hc sel hs hok ha hH hf hk
end
end Go.Abs

/- More calls as steps. -/
namespace Go.Abs
set_option linter.unusedVariables false
section
variable {P : Program} {k : St → Prop} {st : St} {d : Option Nat} {ap : List Nat} {f : FuncId} {xs : List Operand}
end
end Go.Abs

/- A nil slice in a slot, as a slice of one's own without elements. -/
namespace Go.Abs
set_option linter.unusedVariables false
end Go.Abs

/- A slice without room in a slot, as a slice of one's own without elements. -/
namespace Go.Abs
set_option linter.unusedVariables false
theorem Weak.ownnul (t es : Nat) {es' : Nat} {st : St} (ht : gt st.sl t = .nul es') : Weak st { st with sl := up st.sl t (.own st.hp.length es 0 0 0), hp := st.hp ++ [.mem false [] []] } := by
  refine ⟨rfl, fun k hk => ?_, by simp, fun w β F N a hR => ?_⟩
  · show (st.hp ++ _)[k]? = _
    rw [List.getElem?_append_left (lt_of_get hk)]; exact hk
  · have a1 := adv_res (F := F) hR.hok 1
    have hg : (st.hp ++ List.replicate 1 O.res)[st.hp.length]? = some O.res := by simp
    have a2 := new_nil (es := es) (refs := []) (F := F) a1.hok hg
    have e : (st.hp ++ List.replicate 1 O.res).set st.hp.length (.mem false [] []) = st.hp ++ [.mem false [] []] := by
      rw [List.set_append, if_neg (by omega), Nat.sub_self]; rfl
    have a3 : ∀ ad : Option Addr, RV (cx w.heap (st.hp ++ [.mem false [] []]) (upd β st.hp.length ⟨0, 0, 0, es, 0, true, 0, noSub⟩) F) (.slice ad 0 0) (.own st.hp.length es 0 0 0) := fun ad => by
      have := nil_own (es := es) (refs := []) (ad := ad) (hp := w.heap) (F := F) (β := β) hg
      rw [e] at this; exact this
    rw [e] at a2
    have adv := a1.trans a2
    refine ⟨_, adv, ?_⟩
    have hR2 : Rel w _ F N { st with hp := st.hp ++ [.mem false [] []] } a := hR.adv adv
    have hx := hR.sl t
    rw [ht] at hx
    refine hR2.slot ?_
    generalize a.tmps.getD t undef = v at hx
    cases hx with
    | nul => exact a3 _
end Go.Abs

/- Rows of whole numbers. -/
namespace Go.Abs.G
set_option linter.unusedVariables false
section
variable {P : Program} {k : St → Prop} {st : St} {d : Option Nat} {x : Operand} {es : Nat} {zero : List V}
@[simp] theorem F_clr : IvcF P (.clr d es zero x) k st = (match st.ev x with
    | .own id es' off len tot => match st.hp.getD id .dead with
      | .mem false refs rows => es' = es ∧ rows.length = tot ∧ off + len ≤ tot ∧ zero.length = es ∧
          k ({ st with hp := st.hp.set id (.mem false refs (rows.take off ++ List.replicate len zero ++ rows.drop (off + len))) }.put d (.a (.tuple #[])))
      | _ => False
    | .a (.slice none 0 0) => k (st.put d (.a (.tuple #[])))
    | _ => False) := propext Iff.rfl
end
def ri (l : List Int) : List (List V) := l.map fun n => [V.i n]
theorem ri_len (l : List Int) : (ri l).length = l.length := by simp [ri]
end Go.Abs.G


namespace Go.Abs.G
open Go.Proofs
set_option linter.unusedVariables false
set_option linter.unusedSimpArgs false

def isR (d : List (List Int)) (x : Int) : Bool := decide (0 ≤ x) && decide (x < d.length)
def rowR (d : List (List Int)) (x : Int) : List Int := if isR d x then (d[x.toNat]?).getD [] else []
structure DOk (d : List (List Int)) : Prop where
  n : d.length ≤ 64
  l : ∀ l ∈ d, 1 ≤ l.length ∧ l.length ≤ 64
structure ROk (d : List (List Int)) (ms : List (List (List Int))) : Prop where
  d : DOk d
  k : ms.length ≤ 1000000
  m : ∀ e ∈ ms, DOk e

section
variable {d : List (List Int)} {ms : List (List (List Int))} {M : List (List V)}

end
end Go.Abs.G



namespace Go.Abs.G
open Go.Proofs
set_option linter.unusedVariables false
set_option linter.unusedSimpArgs false

section
variable {d : List (List Int)} {D M : List (List V)}

end
end Go.Abs.G



namespace Go.Abs.G
open Go.Proofs
set_option linter.unusedVariables false
set_option linter.unusedSimpArgs false

def leftR (k v : Int) (l : List Int) : List Int := l.filter fun y => !goesB k v y
def cutR (d : List (List Int)) (k x v : Int) : List (List Int) × Bool × Bool :=
  if isR d x = false then (d, false, true)
  else if leftR k v (rowR d x) = [] then (d, false, false)
  else (d.set x.toNat (leftR k v (rowR d x)), decide ((leftR k v (rowR d x)).length < (rowR d x).length), true)

theorem leftR_len (k v : Int) (l : List Int) : (leftR k v l).length ≤ l.length := List.length_filter_le _ _
section
variable {d : List (List Int)} {M : List (List V)}

end
end Go.Abs.G



namespace Go.Abs.G
open Go.Proofs
set_option linter.unusedVariables false
set_option linter.unusedSimpArgs false

section
variable {d : List (List Int)} {M : List (List V)}

end
end Go.Abs.G


namespace Go.Abs.G
open Go.Proofs
set_option linter.unusedVariables false
set_option linter.unusedSimpArgs false

section
variable {d : List (List Int)} {M : List (List V)}

end
end Go.Abs.G


namespace Go.Abs.G
open Go.Proofs
set_option linter.unusedVariables false
set_option linter.unusedSimpArgs false
attribute [local simp] I.vc

end Go.Abs.G



namespace Go.Abs.G
open Go.Proofs
set_option linter.unusedVariables false
set_option linter.unusedSimpArgs false

section
variable {d : List (List Int)} {ms : List (List (List Int))}

end
end Go.Abs.G


namespace Go.Abs.G
open Go.Proofs
set_option linter.unusedVariables false
set_option linter.unusedSimpArgs false

section
variable {d : List (List Int)} {ms : List (List (List Int))}

end
end Go.Abs.G


namespace Go.Abs.G
open Go.Proofs
set_option linter.unusedVariables false
set_option linter.unusedSimpArgs false

def RR (d : List (List Int)) (ms : List (List (List Int))) : O := R1 (dR d) (mR ms)
theorem R1_ren {D M : List (List V)} (hD : flR D) (hM : flR M) (f : Nat → Nat) : O.ren f (R1 D M) = R1 D M := by
  have h : ∀ (D : List (List V)), (∀ f, D.map (V.renL f) = D) → Ce.renR f (flatC D) = flatC D := fun D hD => by
    have hL : ∀ r : List V, Ce.renL f (r.map Ce.v) = (V.renL f r).map Ce.v := fun r => by
      induction r with
      | nil => rfl
      | cons x r ih => simp [Ce.renL, Ce.ren, V.renL, ih]
    have hR : ∀ D : List (List V), Ce.renR f (flatC D) = flatC (D.map (V.renL f)) := fun D => by
      induction D with
      | nil => rfl
      | cons r D ih =>
        have ih' : Ce.renR f (D.map fun r => r.map Ce.v) = (D.map (V.renL f)).map fun r => r.map Ce.v := ih
        simp [flatC, Ce.renR, hL, ih']
    rw [hR, hD]
  simp [R1, O.ren, Ce.renR, Ce.renL, Ce.ren, h D hD.1, h M hM.1]
theorem RR_clo (d : List (List Int)) (ms : List (List (List Int))) : (RR d ms).clo := ⟨rfl, fun f => R1_ren (fl_dR d) (fl_mR ms) f, fun e => by cases e⟩
@[simp ↓ high] theorem RR_clo' (d : List (List Int)) (ms : List (List (List Int))) : (RR d ms).clo = True := eq_true (RR_clo d ms)
@[simp] theorem RR_lim (n : Nat) (d : List (List Int)) (ms : List (List (List Int))) : limO n (RR d ms) = RR d ms := by simp [RR, R1, limO, O.refs]
@[simp] theorem RR_refs (d : List (List Int)) (ms : List (List (List Int))) : (RR d ms).refs = [] := rfl
@[simp] theorem RR_ren (f : Nat → Nat) (d : List (List Int)) (ms : List (List (List Int))) : O.ren f (RR d ms) = RR d ms := R1_ren (fl_dR d) (fl_mR ms) f

section
variable {d : List (List Int)} {ms : List (List (List Int))} (hr : ROk d ms)
include hr
end
end Go.Abs.G



namespace Go.Abs.G
open Go.Proofs
set_option linter.unusedVariables false
set_option linter.unusedSimpArgs false

end Go.Abs.G


namespace Go.Abs.G
open Go.Proofs
set_option linter.unusedVariables false
set_option linter.unusedSimpArgs false

end Go.Abs.G



namespace Go.Abs.G
open Go.Proofs
set_option linter.unusedVariables false
set_option linter.unusedSimpArgs false

theorem sizeR_spec (n most : Int) (h0 : 0 ≤ most) (h1 : most ≤ 9223372036854775807) : Pf Tryz.prog hallmarkref4_size.id [V.i n, V.i most] (.bool (withinB n most)) := by
  refine DC.of hallmarkref4_size.ok (by simp) ?_
  have hw : IntKind.i64.wrap (-most) = -most := wrap64 (by omega) (by omega)
  unfold hallmarkref4_size.ir withinB
  by_cases h : -most ≤ n <;> by_cases h2 : n ≤ most <;> simp -dsimp [hallmarkref4_size.rs, hw, h, h2]

theorem numberR_spec (n : Int) : Pf Tryz.prog hallmarkref4_Number.id [V.i n] (.bool (withinB n 1000000000)) := by
  refine DC.of hallmarkref4_Number.ok (by simp) ?_
  unfold hallmarkref4_Number.ir
  simp -dsimp
  refine gcall (sizeR_spec n 1000000000 (by decide) (by decide)) (by simp -dsimp) (by simp -dsimp) ?_
  simp -dsimp [hallmarkref4_Number.rs]

theorem coefR_spec (n : Int) : Pf Tryz.prog hallmarkref4_Coef.id [V.i n] (.bool (!(decide (n = 0) || !withinB n 1000000))) := by
  refine DC.of hallmarkref4_Coef.ok (by simp) ?_
  unfold hallmarkref4_Coef.ir
  by_cases h : n = 0
  · simp -dsimp [h, hallmarkref4_Coef.rs]
  · simp -dsimp [h]
    refine gcall (sizeR_spec n 1000000 (by decide) (by decide)) (by simp -dsimp) (by simp -dsimp) ?_
    simp -dsimp [hallmarkref4_Coef.rs, h]

theorem manyR_spec (n : Nat) : Pf Tryz.prog hallmarkref4_many.id [V.i n] (.bool (manyB n)) := by
  refine DC.of hallmarkref4_many.ok (by simp) ?_
  unfold hallmarkref4_many.ir manyB
  by_cases h : n < 1
  · have h' : (n : Int) < 1 := by omega
    simp -dsimp [h, h', hallmarkref4_many.rs]
  · have h' : ¬ (n : Int) < 1 := by omega
    by_cases h2 : 64 < n
    · have h2' : (64 : Int) < n := by omega
      simp -dsimp [h, h', h2, h2', hallmarkref4_many.rs]
    · have h2' : ¬ (64 : Int) < n := by omega
      simp -dsimp [h, h', h2, h2', hallmarkref4_many.rs]

theorem listsR_spec (k : Int) : Pf Tryz.prog hallmarkref4_lists.id [V.i k] (.bool (listsB k)) := by
  refine DC.of hallmarkref4_lists.ok (by simp) ?_
  unfold hallmarkref4_lists.ir listsB
  by_cases h3 : k = 3
  · simp -dsimp [h3, hallmarkref4_lists.rs]
  by_cases h5 : k = 5
  · simp -dsimp [h5, hallmarkref4_lists.rs]
  by_cases h6 : k = 6
  · simp -dsimp [h6, hallmarkref4_lists.rs]
  by_cases h8 : k = 8
  · simp -dsimp [h8, hallmarkref4_lists.rs]
  simp -dsimp [h3, h5, h6, h8, hallmarkref4_lists.rs, Bool.beq_eq_decide_eq]

theorem placeR_spec (x n : Int) : Pf Tryz.prog hallmarkref4_place.id [V.i x, V.i n] (.bool (placeR x n)) := by
  refine DC.of hallmarkref4_place.ok (by simp) ?_
  unfold hallmarkref4_place.ir placeR
  by_cases h : 0 ≤ x <;> simp -dsimp [h, hallmarkref4_place.rs]
end Go.Abs.G


namespace Go.Abs.G
open Go.Proofs
set_option linter.unusedVariables false
set_option linter.unusedSimpArgs false

def foS (c : Con) : Bool := decide (c.kind = 1) || decide (c.kind = 7)
def fo1 (c : Con) : Bool := decide (c.kind ≠ 1) && decide (c.kind ≠ 9) && decide (c.op ≠ 0)
def fo2 (c : Con) : Bool := fo1 c || (!foS c && decide (0 < c.terms.length))
def fo3 (c : Con) : Bool := fo2 c || (!foS c && decide (c.kind ≠ 2) && decide (c.kind ≠ 9) && decide (c.k ≠ 0))
def fo4 (c : Con) : Bool := fo3 c || (decide (c.kind ≠ 2) && decide (c.kind ≠ 4) && decide (c.kind ≠ 7) && decide (c.x ≠ 0))
def fo5 (c : Con) : Bool := fo4 c || ((foS c || (listsB c.kind && decide (c.kind ≠ 5) && decide (c.kind ≠ 6))) && decide (c.y ≠ 0))
def fo6 (c : Con) : Bool := fo5 c || (!listsB c.kind && decide (0 < c.xs.length))
def fo7 (c : Con) : Bool := fo6 c || (decide (c.kind ≠ 4) && decide (0 < c.table.length))
def fo0 (c : Con) : Bool := (decide (c.kind ≠ 9) && decide (c.v ≠ 0)) || (decide (c.kind ≠ 8) && decide (0 < c.rows.length))
theorem foreign_fo (c : Con) : foreignB c = (fo0 c || fo7 c) := by
  unfold foreignB fo7 fo6 fo5 fo4 fo3 fo2 fo1 fo0 foS
  split
  · rename_i h; rw [h]; rfl
  · rename_i h; rw [Bool.not_eq_true] at h; rw [h]; rfl

theorem posN (n : Nat) : ((0 : Int) < n) ↔ 0 < n := by omega

theorem foreignR_spec (c : Con) : Pf Tryz.prog hallmarkref4_foreign.id [.agg c.cells] (.bool (foreignB c)) := by
  refine DC.of hallmarkref4_foreign.ok (by simp) ?_
  unfold hallmarkref4_foreign.ir
  refine vc_cut (At [(1, .ptr 0 1 0 0)] [.mem false [] [c.cells]]) (by simp -dsimp [At, Con.cells, vTerms, vInts, vIntss]) ?_
  try clear h
  rintro ⟨sl, hp, bs⟩ ⟨rfl, h⟩
  simp only [sls_cons, sls_one, sls_nil] at h
  refine vc_cut (At [(1, .ptr 0 1 0 0), (3, V.i c.kind)] [.mem false [] [c.cells]]) (by simp -dsimp [h, At, Con.cells, vTerms, vInts, vIntss]) ?_
  try clear h
  rintro ⟨sl, hp, bs⟩ ⟨rfl, h⟩
  simp only [sls_cons, sls_one, sls_nil] at h
  refine vc_cut (At [(1, .ptr 0 1 0 0), (3, V.i c.kind), (4, .bool (foS c))] [.mem false [] [c.cells]]) ?_ ?_
  · by_cases k : c.kind = 1
    · simp -dsimp [h, At, k, foS]
    · simp -dsimp [h, At, k, foS, Bool.beq_eq_decide_eq]
  try clear h
  rintro ⟨sl, hp, bs⟩ ⟨rfl, h⟩
  simp only [sls_cons, sls_one, sls_nil] at h
  refine vc_cut (At [(1, .ptr 0 1 0 0), (3, V.i c.kind), (4, .bool (foS c)), (5, .bool (listsB c.kind))] [.mem false [] [c.cells]]) ?_ ?_
  · simp -dsimp [h]
    refine gcall (listsR_spec c.kind) (by simp -dsimp [h]) (by simp -dsimp [h]) ?_
    simp -dsimp [h, At]
  try clear h
  rintro ⟨sl, hp, bs⟩ ⟨rfl, h⟩
  simp only [sls_cons, sls_one, sls_nil] at h
  obtain ⟨L, hL⟩ : ∃ L, L = listsB c.kind := ⟨_, rfl⟩
  obtain ⟨S, hS⟩ : ∃ S, S = foS c := ⟨_, rfl⟩
  rw [← hL, ← hS] at h
  have l0 := posN
  refine vc_cut (fun st => fo0 c = false ∧ At [(1, .ptr 0 1 0 0), (3, V.i c.kind), (4, .bool S), (5, .bool L)] [.mem false [] [c.cells]] st) ?_ ?_
  · by_cases k9 : c.kind = 9
    · by_cases r : 0 < c.rows.length
      · simp -dsimp [h, At, Con.cells, vTerms, vInts, vIntss, k9, r, l0, fo0, foreign_fo, hallmarkref4_foreign.rs]
      · simp -dsimp [h, At, Con.cells, vTerms, vInts, vIntss, k9, r, l0, fo0]
    · by_cases v : c.v = 0
      · by_cases k8 : c.kind = 8
        · simp -dsimp [h, At, Con.cells, vTerms, vInts, vIntss, k8, v, l0, fo0]
        · by_cases r : 0 < c.rows.length
          · simp -dsimp [h, At, Con.cells, vTerms, vInts, vIntss, k9, k8, v, r, l0, fo0, foreign_fo, hallmarkref4_foreign.rs]
          · simp -dsimp [h, At, Con.cells, vTerms, vInts, vIntss, k9, k8, v, r, l0, fo0]
      · simp -dsimp [h, At, Con.cells, vTerms, vInts, vIntss, k9, v, l0, fo0, foreign_fo, hallmarkref4_foreign.rs]
  try clear h
  rintro ⟨sl, hp, bs⟩ ⟨f0, rfl, h⟩
  simp only [sls_cons, sls_one, sls_nil] at h
  have hF : foreignB c = fo7 c := by rw [foreign_fo, f0]; rfl
  rw [hF]
  refine vc_cut (At [(2, .bool (fo7 c))] [.mem false [] [c.cells]]) ?_ ?_
  rotate_left
  · try clear h
    rintro ⟨sl, hp, bs⟩ ⟨rfl, h⟩
    simp only [sls_cons, sls_one, sls_nil] at h
    simp -dsimp [h, hallmarkref4_foreign.rs]
  refine vc_reg_of (vcIts_cut 12 (At [(1, .ptr 0 1 0 0), (3, V.i c.kind), (4, .bool S), (5, .bool L), (44, .bool (fo1 c))] [.mem false [] [c.cells]]) ?_ ?_)
  · by_cases k : c.kind = 1
    · simp -dsimp [h, At, k, fo1]
    · by_cases k9 : c.kind = 9
      · simp -dsimp [h, At, k9, fo1]
      · by_cases o : c.op = 0
        · simp -dsimp [h, At, k, k9, fo1, o, Con.cells, vTerms, vInts, vIntss]
        · simp -dsimp [h, At, k, k9, fo1, o, Con.cells, vTerms, vInts, vIntss]
  try clear h
  rintro ⟨sl, hp, bs⟩ ⟨rfl, h⟩
  simp only [sls_cons, sls_one, sls_nil] at h
  refine vcIts_cut 10 (At [(1, .ptr 0 1 0 0), (3, V.i c.kind), (4, .bool S), (5, .bool L), (54, .bool (fo2 c))] [.mem false [] [c.cells]]) ?_ ?_
  · cases e : fo1 c
    · cases S
      · by_cases t : 0 < c.terms.length
        · simp -dsimp [h, At, e, fo2, ← hS, t, l0, Con.cells, vTerms, vInts, vIntss]
        · simp -dsimp [h, At, e, fo2, ← hS, t, l0, Con.cells, vTerms, vInts, vIntss]
      · simp -dsimp [h, At, e, fo2, ← hS]
    · simp -dsimp [h, At, e, fo2]
  try clear h
  rintro ⟨sl, hp, bs⟩ ⟨rfl, h⟩
  simp only [sls_cons, sls_one, sls_nil] at h
  refine vcIts_cut 17 (At [(1, .ptr 0 1 0 0), (3, V.i c.kind), (4, .bool S), (5, .bool L), (71, .bool (fo3 c))] [.mem false [] [c.cells]]) ?_ ?_
  · cases e : fo2 c
    · cases S
      · by_cases k2 : c.kind = 2
        · simp -dsimp [h, At, e, fo3, ← hS, k2]
        · by_cases k9 : c.kind = 9
          · simp -dsimp [h, At, e, fo3, ← hS, k9]
          · by_cases t : c.k = 0
            · simp -dsimp [h, At, e, fo3, ← hS, k2, k9, t, Con.cells, vTerms, vInts, vIntss]
            · simp -dsimp [h, At, e, fo3, ← hS, k2, k9, t, Con.cells, vTerms, vInts, vIntss]
      · simp -dsimp [h, At, e, fo3, ← hS]
    · simp -dsimp [h, At, e, fo3]
  try clear h
  rintro ⟨sl, hp, bs⟩ ⟨rfl, h⟩
  simp only [sls_cons, sls_one, sls_nil] at h
  refine vcIts_cut 17 (At [(1, .ptr 0 1 0 0), (3, V.i c.kind), (4, .bool S), (5, .bool L), (88, .bool (fo4 c))] [.mem false [] [c.cells]]) ?_ ?_
  · cases e : fo3 c
    · by_cases k2 : c.kind = 2
      · simp -dsimp [h, At, e, fo4, k2]
      · by_cases k4 : c.kind = 4
        · simp -dsimp [h, At, e, fo4, k4]
        · by_cases k7 : c.kind = 7
          · simp -dsimp [h, At, e, fo4, k7]
          · by_cases t : c.x = 0
            · simp -dsimp [h, At, e, fo4, k2, k4, k7, t, Con.cells, vTerms, vInts, vIntss]
            · simp -dsimp [h, At, e, fo4, k2, k4, k7, t, Con.cells, vTerms, vInts, vIntss]
    · simp -dsimp [h, At, e, fo4]
  try clear h
  rintro ⟨sl, hp, bs⟩ ⟨rfl, h⟩
  simp only [sls_cons, sls_one, sls_nil] at h
  refine vcIts_cut 19 (At [(1, .ptr 0 1 0 0), (3, V.i c.kind), (4, .bool S), (5, .bool L), (107, .bool (fo5 c))] [.mem false [] [c.cells]]) ?_ ?_
  · cases e : fo4 c
    · by_cases t : c.y = 0
      · cases S
        · cases L
          · simp -dsimp [h, At, e, fo5, ← hS, ← hL, t, Con.cells, vTerms, vInts, vIntss]
          · by_cases k5 : c.kind = 5
            · simp -dsimp [h, At, e, fo5, ← hS, ← hL, t, k5, Con.cells, vTerms, vInts, vIntss]
            · by_cases k6 : c.kind = 6
              · simp -dsimp [h, At, e, fo5, ← hS, ← hL, t, k6, Con.cells, vTerms, vInts, vIntss]
              · simp -dsimp [h, At, e, fo5, ← hS, ← hL, t, k5, k6, Con.cells, vTerms, vInts, vIntss]
        · simp -dsimp [h, At, e, fo5, ← hS, ← hL, t, Con.cells, vTerms, vInts, vIntss]
      · cases S
        · cases L
          · simp -dsimp [h, At, e, fo5, ← hS, ← hL, t, Con.cells, vTerms, vInts, vIntss]
          · by_cases k5 : c.kind = 5
            · have hL' : listsB 5 = true := by rw [← k5, ← hL]
              simp -dsimp [h, At, e, fo5, ← hS, hL', t, k5, Con.cells, vTerms, vInts, vIntss]
            · by_cases k6 : c.kind = 6
              · have hL' : listsB 6 = true := by rw [← k6, ← hL]
                simp -dsimp [h, At, e, fo5, ← hS, hL', t, k6, Con.cells, vTerms, vInts, vIntss]
              · simp -dsimp [h, At, e, fo5, ← hS, ← hL, t, k5, k6, Con.cells, vTerms, vInts, vIntss]
        · simp -dsimp [h, At, e, fo5, ← hS, ← hL, t, Con.cells, vTerms, vInts, vIntss]
    · simp -dsimp [h, At, e, fo5]
  try clear h
  rintro ⟨sl, hp, bs⟩ ⟨rfl, h⟩
  simp only [sls_cons, sls_one, sls_nil] at h
  refine vcIts_cut 10 (At [(1, .ptr 0 1 0 0), (3, V.i c.kind), (117, .bool (fo6 c))] [.mem false [] [c.cells]]) ?_ ?_
  · cases e : fo5 c
    · cases L
      · by_cases t : 0 < c.xs.length
        · simp -dsimp [h, At, e, fo6, ← hL, t, l0, Con.cells, vTerms, vInts, vIntss]
        · simp -dsimp [h, At, e, fo6, ← hL, t, l0, Con.cells, vTerms, vInts, vIntss]
      · simp -dsimp [h, At, e, fo6, ← hL]
    · simp -dsimp [h, At, e, fo6]
  try clear h
  rintro ⟨sl, hp, bs⟩ ⟨rfl, h⟩
  simp only [sls_cons, sls_one, sls_nil] at h
  cases e : fo6 c
  · by_cases k4 : c.kind = 4
    · simp -dsimp [h, At, e, fo7, k4]
    · by_cases t : 0 < c.table.length
      · simp -dsimp [h, At, e, fo7, k4, t, l0, Con.cells, vTerms, vInts, vIntss]
      · simp -dsimp [h, At, e, fo7, k4, t, l0, Con.cells, vTerms, vInts, vIntss]
  · simp -dsimp [h, At, e, fo7]
end Go.Abs.G

