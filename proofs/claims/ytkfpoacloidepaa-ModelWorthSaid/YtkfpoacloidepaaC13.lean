import Derived.Test.YtkfpoacloidepaaC12
set_option linter.all false
namespace Go.Abs.G
open Go.Proofs
set_option linter.unusedVariables false
set_option linter.unusedSimpArgs false

/-- A kind whose code stays away from sorting and from the greatest of a list. -/
def KindOk (c : Con) : Prop := c.kind ≠ 3 ∧ c.kind ≠ 5 ∧ c.kind ≠ 6

theorem kind_run {c : Con} {values : List Int} {n : Needs} {f : FuncId} (hk : KindOk c) (hm : (c.kind, n, f) ∈ kindTab) (hc : ConOk c values.length n) (hg : greatB values = false) (hr : ∀ r ∈ c.rows, r.length ≤ maxLen) :
    okFunc Try.prog f = true ∧ Pf Try.prog f [.agg c.cells, .fn (.func model_Holds_1.id) [] [.ref [vInts values] 0]] (.bool (holdsK c (atI values))) := by
  have A : AtOk model_Holds_1.id [.ref [vInts values] 0] (atI values) values.length :=
    ⟨by simp, by simp, fun x h0 h1 => holds1_spec values x h0 h1, fun x h0 h1 => great_at hg h0 h1⟩
  obtain ⟨k3, k5, k6⟩ := hk
  simp only [kindTab, List.mem_cons, Prod.mk.injEq, List.not_mem_nil, or_false] at hm
  rcases hm with ⟨h, rfl, rfl⟩ | ⟨h, rfl, rfl⟩ | ⟨h, rfl, rfl⟩ | ⟨h, rfl, rfl⟩ | ⟨h, rfl, rfl⟩ | ⟨h, rfl, rfl⟩ | ⟨h, rfl, rfl⟩ | ⟨h, rfl, rfl⟩ | ⟨h, rfl, rfl⟩
  · exact ⟨by simp, lin_spec A h hc⟩
  · exact ⟨by simp, ne_spec A h rfl rfl hc⟩
  · exact absurd h k3
  · exact ⟨by simp, element_spec A h rfl rfl hc⟩
  · exact absurd h k5
  · exact absurd h k6
  · exact ⟨by simp, reif_spec A h rfl hc⟩
  · exact ⟨by simp, table_spec A h hc hr⟩
  · exact ⟨by simp, count_spec A h hc⟩

theorem holds_spec (c : Con) (values : List Int) (hc : okCon c) (hv : values.length ≤ maxLen) (hk : KindOk c) : Pf Try.prog model_Holds.id [.agg c.cells, vInts values] (.bool (holdsB c values)) := by
  have hc0 := hc
  obtain ⟨_, _, _, _, _, _, _, _, _, _, hrows⟩ := hc0
  refine DC.of model_Holds.ok (by simp) ?_
  unfold model_Holds.ir
  refine vc_cut (fun s => gt s.sl 2 = .ptr 0 1 0 0 ∧ gt s.sl 3 = .ptr 1 1 0 0 ∧ s.hp = [.mem false [] [c.cells], .mem false [] [[vInts values]]]) (by simp [Con.cells, vTerms, vInts, vIntss]) ?_
  rintro ⟨sl, hp, bs⟩ ⟨h2, h3, rfl⟩
  refine vc_cut (fun s => gt s.sl 2 = .ptr 0 1 0 0 ∧ gt s.sl 3 = .ptr 1 1 0 0 ∧ s.hp = [.mem false [] [c.cells], .mem false [] [[vInts values]]] ∧ conB c values.length = 0 ∧ greatB values = false) ?_ ?_
  · simp [h2, h3, Con.cells, vTerms, vInts, vIntss]
    refine (con_spec c values.length hc).use ?_
    by_cases hb : conB c values.length = 0
    · simp [hb]
      refine (sized_spec values hv).use ?_
      cases hg : greatB values
      · simp [h2, h3, Con.cells, vTerms, vInts, vIntss]
      · simp [h2, h3, holdsB, hb, hg, model_Holds.rs]
    · simp [hb, holdsB, model_Holds.rs]
  rintro ⟨sl, hp, bs⟩ ⟨h2, h3, rfl, hb, hg⟩
  have hH : holdsB c values = holdsK c (atI values) := by simp [holdsB, hb, hg]
  rw [hH]
  simp [h2, h3, Con.cells, vTerms, vInts, vIntss]
  refine kinds_spec.use ?_
  have hkey := kindEnts_key
  rcases kindEnts_get c.kind with ⟨h1, _⟩ | ⟨n, f, h1, hmem, h3'⟩
  · simp [conB, h1] at hb
  have hcN : conN c values.length n = 0 := by simpa [conB, h1] using hb
  obtain ⟨hokf, hrun⟩ := kind_run hk hmem (ConOk.of hcN) hg fun r hr => (hrows r hr).1
  simp [kindsV, h3', Needs.cells, hokf]
  refine ⟨⟨fun a b h => hkey _ h, rfl⟩, ?_⟩
  refine DP.mono (show DP Try.prog f _ _ from hrun) fun r hr => ?_
  subst hr
  simp [model_Holds.rs]

theorem solution1_spec (c : Con) (values : List Int) (hc : okCon c) (hv : values.length ≤ maxLen) (hk : KindOk c) : Pf Try.prog model_Solution_1.id [.agg c.cells, .ref [vInts values] 0] (.bool (!holdsB c values)) := by
  refine DC.of model_Solution_1.ok (by simp) ?_
  simp [model_Solution_1.ir, model_Solution_1.rs, Con.cells, vTerms, vInts, vIntss]
  exact (holds_spec c values hc hv hk).use (by simp)
end Go.Abs.G
