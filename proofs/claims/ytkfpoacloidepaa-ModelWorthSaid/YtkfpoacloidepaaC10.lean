import Derived.Test.YtkfpoacloidepaaC9
set_option linter.all false
namespace Go.Abs.G
open Go.Proofs
set_option linter.unusedVariables false
set_option linter.unusedSimpArgs false

theorem endsI_bound {m : Model} (h : Right m) (least : Bool) : ∀ (l : List Term), (∀ t ∈ l, TermOk m.vars.length t) → -(1000000000000000 * l.length : Int) ≤ endsI m least l ∧ endsI m least l ≤ 1000000000000000 * l.length := by
  intro l
  induction l with
  | nil => intro _; simp [endsI]
  | cons t l ih =>
    intro ht
    have h1 := ih fun t h => ht t (by simp [h])
    have h2 := ht t (by simp)
    have h3 := (h.varAt h2.x.1 h2.x.2).2
    have h4 := mul_bound ⟨h2.c.1, h2.c.2.1⟩ h3.lo
    have h5 := mul_bound ⟨h2.c.1, h2.c.2.1⟩ h3.hi
    have h6 : endsI m least (t :: l) = endOf m least t + endsI m least l := by simp [endsI]
    rw [h6, List.length_cons]
    have h7 : -1000000000000000 ≤ endOf m least t ∧ endOf m least t ≤ 1000000000000000 := by
      unfold endOf; split <;> assumption
    omega

theorem endsI_succ (m : Model) (least : Bool) {l : List Term} {i : Nat} (h : i < l.length) : endsI m least (l.take (i + 1)) = endsI m least (l.take i) + endOf m least l[i] := by
  unfold endsI
  rw [List.take_succ_eq_append_getElem h, List.map_append, List.sum_append]; simp

theorem ends_spec (m : Model) (least : Bool) (hm' : okModel m) : Pf Try.prog model_ends.id [.agg m.cells, .bool least] (V.i (endsB m least)) := by
  have hm : (maxLen : Int) ≤ 9223372036854775807 := by decide
  refine DC.of model_ends.ok (by simp) ?_
  unfold model_ends.ir
  refine vc_cut (fun s => gt s.sl 1 = .bool least ∧ gt s.sl 2 = .ptr 0 1 0 0 ∧ s.hp = [.mem false [] [m.cells]]) (by simp [Model.cells, vVars, vCons, vTerms]) ?_
  rintro ⟨sl, hp, bs⟩ ⟨h1, h2, rfl⟩
  refine vc_cut (fun s => gt s.sl 1 = .bool least ∧ gt s.sl 2 = .ptr 0 1 0 0 ∧ s.hp = [.mem false [] [m.cells]] ∧ rightB m = true) ?_ ?_
  · simp [h1, h2, Model.cells, vVars, vCons, vTerms]
    refine (right_spec m hm').use ?_
    cases hr : rightB m
    · simp [endsB, hr, model_ends.rs]
    · simp [h1, h2, Model.cells, vVars, vCons, vTerms]
  rintro ⟨sl, hp, bs⟩ ⟨h1, h2, rfl, hr⟩
  have hR := right_iff.1 hr
  obtain ⟨ht, hl⟩ := hR.terms
  have hB : endsB m least = endsI m least m.goal := by simp [endsB, hr]
  rw [hB]
  simp [h1, h2, Model.cells, vVars, vCons, vTerms]
  refine WI.mono (Q := fun e s => e = .exit 0 ∧ gt s.sl 5 = V.i (endsI m least m.goal)) (WI.loop 1 (by simp) (fun s => ∃ i, i ≤ m.goal.length ∧ gt s.sl 1 = .bool least ∧ gt s.sl 2 = .ptr 0 1 0 0 ∧ gt s.sl 5 = V.i (endsI m least (m.goal.take i)) ∧ gt s.sl 13 = vTerms m.goal ∧ gt s.sl 14 = V.i m.goal.length ∧ gt s.sl 15 = V.i i ∧ s.hp = [.mem false [] [m.cells]]) (fun s => (m.goal.length - (gt s.sl 15).num).toNat) ?_ ?_) ?_
  · exact ⟨0, by simp [h1, h2, Model.cells, vVars, vCons, vTerms, endsI]⟩
  · rintro ⟨sl, hp, bs⟩ ⟨i, hi, h1, h2, h5, h13, h14, h15, rfl⟩
    by_cases hil : i < m.goal.length
    · have hti := ht _ (List.getElem_mem hil)
      obtain ⟨hv1, hv2⟩ := hR.varAt hti.x.1 hti.x.2
      have hs := endsI_succ m least hil
      have hb1 := endsI_bound hR least (m.goal.take i) fun t h => ht t (List.mem_of_mem_take h)
      have hb2 := endsI_bound hR least (m.goal.take (i + 1)) fun t h => ht t (List.mem_of_mem_take h)
      have hw : IntKind.i64.wrap ((i : Int) + 1) = ((i + 1 : Nat) : Int) := by rw [wrap64] <;> omega
      have hlen : (m.goal.take (i + 1)).length ≤ 64 := by simp; omega
      generalize hT : m.goal[i] = t at *
      obtain ⟨n, hn⟩ := Int.eq_ofNat_of_zero_le hti.x.1
      have hxl := hti.x.2
      rw [hn] at hxl
      have hxl' : n < m.vars.length := by omega
      have hva : m.vars[n] = varAt m t.x := by
        rw [hn] at hv1
        simp [List.getElem?_eq_getElem hxl'] at hv1
        rw [hn]; exact hv1
      generalize hvv : varAt m t.x = v at *
      have e1 := mul_bound ⟨hti.c.1, hti.c.2.1⟩ hv2.lo
      have e2 := mul_bound ⟨hti.c.1, hti.c.2.1⟩ hv2.hi
      have g15 := h15
      have hsum : IntKind.i64.wrap (endsI m least (m.goal.take i) + IntKind.i64.wrap (t.c * v.lo)) = endsI m least (m.goal.take i) + t.c * v.lo := by rw [wrap64 (n := t.c * v.lo) (by omega) (by omega), wrap64] <;> simp at hb1 <;> omega
      have hsum2 : IntKind.i64.wrap (endsI m least (m.goal.take i) + IntKind.i64.wrap (t.c * v.hi)) = endsI m least (m.goal.take i) + t.c * v.hi := by rw [wrap64 (n := t.c * v.hi) (by omega) (by omega), wrap64] <;> simp at hb1 <;> omega
      unfold model_ends.b0
      refine vc_cut (fun s => gt s.sl 1 = .bool least ∧ gt s.sl 2 = .ptr 0 1 0 0 ∧ gt s.sl 5 = V.i (endsI m least (m.goal.take i)) ∧ gt s.sl 13 = vTerms m.goal ∧ gt s.sl 14 = V.i m.goal.length ∧ gt s.sl 15 = V.i i ∧ gt s.sl 16 = .bool true ∧ s.hp = [.mem false [] [m.cells]]) (by simp [h1, h2, h5, h13, h14, h15, hil]) ?_
      rintro ⟨sl, hp, bs⟩ ⟨h1, h2, h5, h13, h14, h15, h16, rfl⟩
      refine vc_cut (fun s => gt s.sl 1 = .bool least ∧ gt s.sl 2 = .ptr 0 1 0 0 ∧ gt s.sl 5 = V.i (endsI m least (m.goal.take i)) ∧ gt s.sl 13 = vTerms m.goal ∧ gt s.sl 14 = V.i m.goal.length ∧ gt s.sl 15 = V.i i ∧ s.hp = [.mem false [] [m.cells]]) (by simp [h1, h2, h5, h13, h14, h15, h16]) ?_
      rintro ⟨sl, hp, bs⟩ ⟨h1, h2, h5, h13, h14, h15, rfl⟩
      refine vc_cut (fun s => gt s.sl 1 = .bool least ∧ gt s.sl 2 = .ptr 0 1 0 0 ∧ gt s.sl 5 = V.i (endsI m least (m.goal.take (i + 1))) ∧ gt s.sl 13 = vTerms m.goal ∧ gt s.sl 14 = V.i m.goal.length ∧ gt s.sl 15 = V.i i ∧ s.hp = [.mem false [] [m.cells], .mem false [] [t.cells], .mem false [] [v.cells]]) (vc_block_of ?_) ?_
      · refine vc_cut (fun s => gt s.sl 1 = .bool least ∧ gt s.sl 2 = .ptr 0 1 0 0 ∧ gt s.sl 5 = V.i (endsI m least (m.goal.take i)) ∧ gt s.sl 7 = .ptr 1 1 0 0 ∧ gt s.sl 13 = vTerms m.goal ∧ gt s.sl 14 = V.i m.goal.length ∧ gt s.sl 15 = V.i i ∧ s.hp = [.mem false [] [m.cells], .mem false [] [t.cells]]) (by simp [h1, h2, h5, h13, h14, h15, vTerms, Term.cells, hil, hT]) ?_
        rintro ⟨sl, hp, bs⟩ ⟨h1, h2, h5, h7, h13, h14, h15, rfl⟩
        refine vc_cut (fun s => gt s.sl 1 = .bool least ∧ gt s.sl 2 = .ptr 0 1 0 0 ∧ gt s.sl 5 = V.i (endsI m least (m.goal.take i)) ∧ gt s.sl 7 = .ptr 1 1 0 0 ∧ gt s.sl 8 = .ptr 2 1 0 0 ∧ gt s.sl 13 = vTerms m.goal ∧ gt s.sl 14 = V.i m.goal.length ∧ gt s.sl 15 = V.i i ∧ s.hp = [.mem false [] [m.cells], .mem false [] [t.cells], .mem false [] [v.cells]]) (by simp [h1, h2, h5, h7, h13, h14, h15, vVars, vCons, vTerms, Term.cells, Var.cells, Model.cells, hn, hxl', hva]) ?_
        rintro ⟨sl, hp, bs⟩ ⟨h1, h2, h5, h7, h8, h13, h14, h15, rfl⟩
        refine vc_cut (fun s => gt s.sl 1 = .bool least ∧ gt s.sl 2 = .ptr 0 1 0 0 ∧ gt s.sl 5 = V.i (endsI m least (m.goal.take i)) ∧ gt s.sl 7 = .ptr 1 1 0 0 ∧ gt s.sl 8 = .ptr 2 1 0 0 ∧ gt s.sl 13 = vTerms m.goal ∧ gt s.sl 14 = V.i m.goal.length ∧ gt s.sl 15 = V.i i ∧ gt s.sl 29 = .bool (decide (0 < t.c) == least) ∧ s.hp = [.mem false [] [m.cells], .mem false [] [t.cells], .mem false [] [v.cells]]) (by simp [h1, h2, h5, h7, h8, h13, h14, h15, Term.cells]) ?_
        rintro ⟨sl, hp, bs⟩ ⟨h1, h2, h5, h7, h8, h13, h14, h15, h29, rfl⟩
        by_cases hc : decide (0 < t.c) = least
        · simp [h1, h2, h5, h7, h8, h13, h14, h15, h29, hc, Term.cells, Var.cells, hs, hsum, endOf, hvv]
        · simp [h1, h2, h5, h7, h8, h13, h14, h15, h29, hc, Term.cells, Var.cells, hs, hsum2, endOf, hvv]
      rintro ⟨sl, hp, bs⟩ ⟨h1, h2, h5, h13, h14, h15, rfl⟩
      simp [h1, h2, h5, h13, h14, h15, hw, vTerms, Term.cells, Var.cells, Model.cells, vVars, vCons, g15]
      exact ⟨⟨i + 1, by omega, rfl, by omega⟩, by omega⟩
    · obtain rfl : i = m.goal.length := by omega
      rw [List.take_length] at h5
      simp [model_ends.b0, h1, h5, h13, h14, h15]
  · rintro e ⟨sl, hp, bs⟩ ⟨rfl, h5⟩
    simp [h5, model_ends.rs]

theorem floor_spec (m : Model) (hm' : okModel m) : Pf Try.prog model_Floor.id [.agg m.cells] (V.i (endsB m true)) := by
  refine DC.of model_Floor.ok (by simp) ?_
  simp [model_Floor.ir, model_Floor.rs, Model.cells, vVars, vCons, vTerms]
  exact (ends_spec m true hm').use (by simp)

theorem ceil_spec (m : Model) (hm' : okModel m) : Pf Try.prog model_Ceil.id [.agg m.cells] (V.i (endsB m false)) := by
  refine DC.of model_Ceil.ok (by simp) ?_
  simp [model_Ceil.ir, model_Ceil.rs, Model.cells, vVars, vCons, vTerms]
  exact (ends_spec m false hm').use (by simp)
end Go.Abs.G
