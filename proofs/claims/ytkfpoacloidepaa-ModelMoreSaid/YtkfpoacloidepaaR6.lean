import Derived.Test.YtkfpoacloidepaaR5
set_option linter.all false
namespace Go.Abs.G
open Go.Proofs
set_option linter.unusedVariables false
set_option linter.unusedSimpArgs false

theorem unlike_nodup (l : List Int) : Unlike (l.mergeSort (fun x y => decide (x ≤ y))).toArray l.length ↔ l.Nodup := by
  have hp := List.mergeSort_perm l (fun x y => decide (x ≤ y))
  have hs : (l.mergeSort (fun x y => decide (x ≤ y))).Pairwise (fun x y => decide (x ≤ y) = true) :=
    List.pairwise_mergeSort (fun a b c h1 h2 => by simp at *; omega) (fun a b => by simp; omega) l
  have hl := hp.length_eq
  rw [← hp.nodup_iff]
  generalize l.mergeSort (fun x y => decide (x ≤ y)) = s at hs hl hp
  rw [← hl]
  rw [List.pairwise_iff_getElem] at hs
  constructor
  · intro h
    rw [List.nodup_iff_pairwise_ne, List.pairwise_iff_getElem]
    intro i j hi hj hij
    obtain ⟨k, rfl⟩ : ∃ k, j = k + 1 := ⟨j - 1, by omega⟩
    have h1 := h k hj
    have e1 : s.toArray[k + 1]! = s[k + 1] := by rw [getElem!_pos s.toArray (k + 1) (by simpa using hj)]; simp
    have e2 : s.toArray[k]! = s[k] := by rw [getElem!_pos s.toArray k (by simp; omega)]; simp
    rw [e1, e2] at h1
    have h2 : s[k] ≤ s[k + 1] := by simpa using hs k (k + 1) (by omega) hj (by omega)
    have h3 : s[i] ≤ s[k] := by
      by_cases hik : i = k
      · subst hik; exact Int.le_refl _
      · simpa using hs i k hi (by omega) (by omega)
    omega
  · intro h i hi
    rw [List.nodup_iff_pairwise_ne, List.pairwise_iff_getElem] at h
    have e1 : s.toArray[i + 1]! = s[i + 1] := by rw [getElem!_pos s.toArray (i + 1) (by simpa using hi)]; simp
    have e2 : s.toArray[i]! = s[i] := by rw [getElem!_pos s.toArray i (by simp; omega)]; simp
    rw [e1, e2]
    exact fun e => h i (i + 1) (by omega) hi (by omega) e.symm

theorem maxI_snoc : ∀ (a : List Int) (x : Int), a ≠ [] → maxI (a ++ [x]) = max (maxI a) x
  | [], x, h => absurd rfl h
  | [y], x, _ => rfl
  | y :: z :: a, x, _ => by
    have := maxI_snoc (z :: a) x (by simp)
    show max y (maxI ((z :: a) ++ [x])) = max (max y (maxI (z :: a))) x
    rw [this, Int.max_assoc]
theorem minI_snoc : ∀ (a : List Int) (x : Int), a ≠ [] → minI (a ++ [x]) = min (minI a) x
  | [], x, h => absurd rfl h
  | [y], x, _ => rfl
  | y :: z :: a, x, _ => by
    have := minI_snoc (z :: a) x (by simp)
    show min y (minI ((z :: a) ++ [x])) = min (min y (minI (z :: a))) x
    rw [this, Int.min_assoc]

theorem max_spec (l : List Int) (h1 : 1 ≤ l.length) (h2 : l.length ≤ 64) : Pf Try.prog slices_Max_Lint_int.id [vInts l] (V.i (maxI l)) := by
  refine DC.of slices_Max_Lint_int.ok (by simp) ?_
  have i1 : ¬ (l.length : Int) < 1 := by omega
  have i2 : 0 < l.length := by omega
  unfold slices_Max_Lint_int.ir
  refine vc_cut (fun s => gt s.sl 0 = vInts l ∧ s.hp = []) (by simp [vInts]) ?_
  rintro ⟨sl, hp, bs⟩ ⟨h0, rfl⟩
  refine vc_cut (fun s => gt s.sl 0 = vInts l ∧ s.hp = []) ?_ ?_
  · refine vc_cut (fun s => gt s.sl 0 = vInts l ∧ gt s.sl 7 = .bool false ∧ s.hp = []) (by simp [h0, vInts, i1]) ?_
    rintro ⟨sl, hp, bs⟩ ⟨h0, h7, rfl⟩
    rw [vc_cond_false (by simpa using h7)]
    exact ⟨h0, rfl⟩
  rintro ⟨sl, hp, bs⟩ ⟨h0, rfl⟩
  refine vc_cut (fun s => gt s.sl 0 = vInts l ∧ gt s.sl 3 = V.i (maxI (l.take 1)) ∧ s.hp = []) ?_ ?_
  · obtain ⟨x, l', rfl⟩ := List.length_pos_iff_exists_cons.1 i2
    simp [h0, vInts, maxI]
  rintro ⟨sl, hp, bs⟩ ⟨h0, h3, rfl⟩
  simp [h0, h3, vInts]
  refine WI.mono (Q := fun e s => e = .exit 0 ∧ gt s.sl 3 = V.i (maxI l) ∧ s.hp = []) (WI.loop 0 (by simp) (fun s => ∃ i, 1 ≤ i ∧ i ≤ l.length ∧ gt s.sl 0 = vInts l ∧ gt s.sl 3 = V.i (maxI (l.take i)) ∧ gt s.sl 4 = V.i i ∧ s.hp = []) (fun s => (l.length - (gt s.sl 4).num).toNat) ?_ ?_) ?_
  · exact ⟨1, by simp [vInts, h1]⟩
  · clear h0 h3
    rintro ⟨sl, hp, bs⟩ ⟨i, hi1, hi, h0, h3, h4, rfl⟩
    by_cases hil : i < l.length
    · have hw : IntKind.i64.wrap ((i : Int) + 1) = ((i + 1 : Nat) : Int) := by rw [wrap64] <;> omega
      have hne : l.take i ≠ [] := List.ne_nil_of_length_pos (by rw [List.length_take]; omega)
      have hm : maxI (l.take (i + 1)) = max (maxI (l.take i)) l[i] := by rw [List.take_succ_eq_append_getElem hil, maxI_snoc _ _ hne]
      simp [slices_Max_Lint_int.b0, h0, h3, h4, vInts, hil, hw]
      exact ⟨⟨i + 1, by omega, by omega, by rw [hm, Int.max_def]; split <;> split <;> omega, by omega⟩, by omega⟩
    · obtain rfl : i = l.length := by omega
      simp [slices_Max_Lint_int.b0, h0, h3, h4, vInts]
  · rintro e ⟨sl, hp, bs⟩ ⟨rfl, h3, rfl⟩
    simp [h3, slices_Max_Lint_int.rs]
theorem min_spec (l : List Int) (h1 : 1 ≤ l.length) (h2 : l.length ≤ 64) : Pf Try.prog slices_Min_Lint_int.id [vInts l] (V.i (minI l)) := by
  refine DC.of slices_Min_Lint_int.ok (by simp) ?_
  have i1 : ¬ (l.length : Int) < 1 := by omega
  have i2 : 0 < l.length := by omega
  unfold slices_Min_Lint_int.ir
  refine vc_cut (fun s => gt s.sl 0 = vInts l ∧ s.hp = []) (by simp [vInts]) ?_
  rintro ⟨sl, hp, bs⟩ ⟨h0, rfl⟩
  refine vc_cut (fun s => gt s.sl 0 = vInts l ∧ s.hp = []) ?_ ?_
  · refine vc_cut (fun s => gt s.sl 0 = vInts l ∧ gt s.sl 7 = .bool false ∧ s.hp = []) (by simp [h0, vInts, i1]) ?_
    rintro ⟨sl, hp, bs⟩ ⟨h0, h7, rfl⟩
    rw [vc_cond_false (by simpa using h7)]
    exact ⟨h0, rfl⟩
  rintro ⟨sl, hp, bs⟩ ⟨h0, rfl⟩
  refine vc_cut (fun s => gt s.sl 0 = vInts l ∧ gt s.sl 3 = V.i (minI (l.take 1)) ∧ s.hp = []) ?_ ?_
  · obtain ⟨x, l', rfl⟩ := List.length_pos_iff_exists_cons.1 i2
    simp [h0, vInts, minI]
  rintro ⟨sl, hp, bs⟩ ⟨h0, h3, rfl⟩
  simp [h0, h3, vInts]
  refine WI.mono (Q := fun e s => e = .exit 0 ∧ gt s.sl 3 = V.i (minI l) ∧ s.hp = []) (WI.loop 0 (by simp) (fun s => ∃ i, 1 ≤ i ∧ i ≤ l.length ∧ gt s.sl 0 = vInts l ∧ gt s.sl 3 = V.i (minI (l.take i)) ∧ gt s.sl 4 = V.i i ∧ s.hp = []) (fun s => (l.length - (gt s.sl 4).num).toNat) ?_ ?_) ?_
  · exact ⟨1, by simp [vInts, h1]⟩
  · clear h0 h3
    rintro ⟨sl, hp, bs⟩ ⟨i, hi1, hi, h0, h3, h4, rfl⟩
    by_cases hil : i < l.length
    · have hw : IntKind.i64.wrap ((i : Int) + 1) = ((i + 1 : Nat) : Int) := by rw [wrap64] <;> omega
      have hne : l.take i ≠ [] := List.ne_nil_of_length_pos (by rw [List.length_take]; omega)
      have hm : minI (l.take (i + 1)) = min (minI (l.take i)) l[i] := by rw [List.take_succ_eq_append_getElem hil, minI_snoc _ _ hne]
      simp [slices_Min_Lint_int.b0, h0, h3, h4, vInts, hil, hw]
      exact ⟨⟨i + 1, by omega, by omega, by rw [hm, Int.min_def]; split <;> split <;> omega, by omega⟩, by omega⟩
    · obtain rfl : i = l.length := by omega
      simp [slices_Min_Lint_int.b0, h0, h3, h4, vInts]
  · rintro e ⟨sl, hp, bs⟩ ⟨rfl, h3, rfl⟩
    simp [h3, slices_Min_Lint_int.rs]

section
variable {f : FuncId} {cap : List V} {g : Int → Int} {vars : Nat} (A : AtOk f cap g vars)
include A

theorem each_own {xs : List Int} (hl : xs.length ≤ 64) (h1 : 1 ≤ xs.length) (hx : ∀ x ∈ xs, 0 ≤ x ∧ x < vars) : DC Try.prog model_each.id [vInts xs, .fn (.func f) [] cap] [] (fun r H => ∃ o, r = .own 1 1 0 xs.length xs.length ∧ H = [o, rowsO (xs.map g).toArray]) := by
  have hid := A.ids
  have hok := A.ok
  refine DC.of model_each.ok (by simp) ?_
  simp [model_each.ir, model_each.rs, vInts, hid, hok]
  refine WI.mono (Q := fun e s => e = .exit 0 ∧ ∃ o, gt s.sl 5 = .own 1 1 0 xs.length xs.length ∧ s.hp = [o, .mem false [] ((xs.map g).map fun x => [V.i x])]) (WI.loop 2 (by simp) (fun s => ∃ i, i ≤ xs.length ∧ gt s.sl 1 = .fn (.func f) [] cap ∧ gt s.sl 8 = vInts xs ∧ gt s.sl 9 = V.i xs.length ∧ gt s.sl 10 = V.i i ∧
      ((i = 0 ∧ gt s.sl 5 = .a (.slice none 0 0) ∧ s.hp = []) ∨ ∃ o, 0 < i ∧ gt s.sl 5 = .own 1 1 0 i i ∧ s.hp = [o, .mem false [] (((xs.take i).map g).map fun x => [V.i x])])) (fun s => (xs.length - (gt s.sl 10).num).toNat) ?_ ?_) ?_
  · exact ⟨0, by simp [vInts]⟩
  · rintro ⟨sl, hp, bs⟩ ⟨i, hi, h1, h8, h9, h10, hcase⟩
    by_cases hil : i < xs.length
    · have hxi := hx _ (List.getElem_mem hil)
      have hw : IntKind.i64.wrap ((i : Int) + 1) = ((i + 1 : Nat) : Int) := by rw [wrap64] <;> omega
      have htk : List.take (i + 1) (List.map ((fun n => [V.i n]) ∘ g) xs) = List.take i (List.map ((fun n => [V.i n]) ∘ g) xs) ++ [[V.i (g xs[i])]] := by
        rw [List.take_succ_eq_append_getElem (by simpa using hil)]; simp
      have h1w : IntKind.i64.wrap 1 = 1 := by decide
      rcases hcase with ⟨rfl, h5, rfl⟩ | ⟨o, h0, h5, rfl⟩
      · simp [model_each.b0, h1, h5, h8, h9, h10, vInts, hil, hid, hok]
        refine DP.mono (A.run _ hxi.1 hxi.2) fun r hr => ?_
        subst hr
        simp [hid, hok]
        exact ⟨⟨1, by omega, h1w, by omega, rfl, by simpa using htk.symm⟩, by omega⟩
      · simp [model_each.b0, h1, h5, h8, h9, h10, vInts, hil, hid, hok]
        refine DP.mono (A.run _ hxi.1 hxi.2) fun r hr => ?_
        subst hr
        simp [hid, hok]
        exact ⟨by omega, by omega, ⟨i + 1, by omega, hw, by omega, rfl, htk.symm⟩, by omega⟩
    · obtain rfl : i = xs.length := by omega
      simp [model_each.b0, h1, h8, h9, h10]
      rcases hcase with ⟨h0, h5, rfl⟩ | ⟨o, h0, h5, rfl⟩
      · omega
      · refine ⟨h5, ?_⟩
        simp
  · rintro e ⟨sl, hp, bs⟩ ⟨rfl, o, h5, rfl⟩
    simp [h5]

theorem maxK_spec {c : Con} {n : Needs} (hk : c.kind = 5) (hy : n.y = true) (hxs : n.xs = true) (hc : ConOk c vars n) : Pf Try.prog model_kinds_2.id [.agg c.cells, .fn (.func f) [] cap] (.bool (holdsK c g)) := by
  have hid := A.ids
  have hok := A.ok
  refine DC.of model_kinds_2.ok (by simp) ?_
  simp [model_kinds_2.ir, model_kinds_2.rs, Con.cells, vTerms, vInts, vIntss, hid, hok]
  refine DP.mono (A.run _ (hc.y hy).1 (hc.y hy).2) fun r hr => ?_
  subst hr
  refine (each_spec A hc.xsN hc.xs).use ?_
  refine ⟨by simp [vInts], (max_spec (c.xs.map g) (by simpa using hc.xs1 hxs) (by simpa using hc.xsN)).use ?_⟩
  simp [holdsK, hk]
  rfl

theorem minK_spec {c : Con} {n : Needs} (hk : c.kind = 6) (hy : n.y = true) (hxs : n.xs = true) (hc : ConOk c vars n) : Pf Try.prog model_kinds_3.id [.agg c.cells, .fn (.func f) [] cap] (.bool (holdsK c g)) := by
  have hid := A.ids
  have hok := A.ok
  refine DC.of model_kinds_3.ok (by simp) ?_
  simp [model_kinds_3.ir, model_kinds_3.rs, Con.cells, vTerms, vInts, vIntss, hid, hok]
  refine DP.mono (A.run _ (hc.y hy).1 (hc.y hy).2) fun r hr => ?_
  subst hr
  refine (each_spec A hc.xsN hc.xs).use ?_
  refine ⟨by simp [vInts], (min_spec (c.xs.map g) (by simpa using hc.xs1 hxs) (by simpa using hc.xsN)).use ?_⟩
  simp [holdsK, hk]
  rfl

theorem allDiff_spec {c : Con} {n : Needs} (hk : c.kind = 3) (hxs : n.xs = true) (hc : ConOk c vars n) : Pf Try.prog model_allDiff.id [.agg c.cells, .fn (.func f) [] cap] (.bool (holdsK c g)) := by
  have hid := A.ids
  have hok := A.ok
  have hx1 := hc.xs1 hxs
  have hxN := hc.xsN
  refine DC.of model_allDiff.ok (by simp) ?_
  unfold model_allDiff.ir
  obtain ⟨L, hL⟩ : ∃ L, c.xs.length = L := ⟨_, rfl⟩
  refine vc_cut (fun s => gt s.sl 1 = .fn (.func f) [] cap ∧ gt s.sl 2 = .ptr 0 1 0 0 ∧ s.hp = [.mem false [] [c.cells]]) (by simp [Con.cells, vTerms, vInts, vIntss]) ?_
  rintro ⟨sl, hp, bs⟩ ⟨h1, h2, rfl⟩
  refine vc_cut (fun s => ∃ o, gt s.sl 2 = .ptr 0 1 0 0 ∧ gt s.sl 5 = .own 2 1 0 L L ∧ s.hp = [.mem false [] [c.cells], o, rowsO (c.xs.map g).toArray]) ?_ ?_
  · simp -dsimp [↓callo_fn, h1, h2, Con.cells, vTerms, vInts, vIntss, hid]
    refine DC.mono (each_own A hc.xsN hx1 hc.xs) fun r H ⟨o, hr, hH⟩ => ?_
    subst hr hH
    simp [h1, h2, hL]
  clear h1 h2
  rintro ⟨sl, hp, bs⟩ ⟨o, h2, h5, rfl⟩
  obtain ⟨d, hd⟩ : ∃ d, (c.xs.map g).toArray = d := ⟨_, rfl⟩
  have zd : d.size = L := by rw [← hd, ← hL]; simp
  have hdl : d.toList = c.xs.map g := by rw [← hd]
  rw [hd]
  obtain ⟨s, hs⟩ : ∃ s, (d.toList.mergeSort (fun x y => decide (x ≤ y))).toArray = s := ⟨_, rfl⟩
  have zs : s.size = L := by rw [← hs, ← zd]; simp [List.length_mergeSort]
  have hu : Unlike s L ↔ (c.xs.map g).Nodup := by
    have := unlike_nodup d.toList
    rw [hs, hdl] at this
    simpa [hL] using this
  refine vc_cut (fun st => ∃ J, gt st.sl 2 = .ptr 0 1 0 0 ∧ gt st.sl 5 = .own 2 1 0 L L ∧ st.hp = .mem false [] [c.cells] :: o :: rowsO s :: J) ?_ ?_
  · have sp := sort_spec d (by omega)
    rw [hs, zd] at sp
    simp -dsimp [↓callm_fn, h2, h5]
    refine DC.mono sp fun r H ⟨J, hH⟩ => ?_
    subst hH
    simp -dsimp [h2, h5]
  clear h2 h5
  rintro ⟨sl, hp, bs⟩ ⟨J, h2, h5, rfl⟩
  have sp := compact_spec s (by omega)
  rw [zs] at sp
  simp -dsimp [↓calla_fn, h2, h5, Con.cells, vTerms, vInts, vIntss]
  refine DC.mono sp fun r H ⟨m, rows, hr, hH, hl, hm, hiff⟩ => ?_
  subst hr hH
  simp -dsimp [h2, h5, model_allDiff.rs, Con.cells, vTerms, vInts, vIntss, hl, hL]
  have hH : holdsK c g = decide (m = L) := by
    simp only [holdsK, hk]
    simp
    exact (hiff.trans hu).symm
  rw [hH]
  by_cases hmL : m = L
  · simp [hmL]
  · have : ¬ (m : Int) = (L : Int) := by omega
    simp [hmL]
    exact this
end
end Go.Abs.G

namespace Go.Abs.G
open Go.Proofs
set_option linter.unusedVariables false
set_option linter.unusedSimpArgs false

/-- Every kind. -/
def KindOk (_ : Con) : Prop := True

theorem kind_run {c : Con} {values : List Int} {n : Needs} {f : FuncId} (hk : KindOk c) (hm : (c.kind, n, f) ∈ kindTab) (hc : ConOk c values.length n) (hg : greatB values = false) (hr : ∀ r ∈ c.rows, r.length ≤ maxLen) :
    okFunc Try.prog f = true ∧ Pf Try.prog f [.agg c.cells, .fn (.func model_Holds_1.id) [] [.ref [vInts values] 0]] (.bool (holdsK c (atI values))) := by
  have A : AtOk model_Holds_1.id [.ref [vInts values] 0] (atI values) values.length :=
    ⟨by simp, by simp, fun x h0 h1 => holds1_spec values x h0 h1, fun x h0 h1 => great_at hg h0 h1⟩
  simp only [kindTab, List.mem_cons, Prod.mk.injEq, List.not_mem_nil, or_false] at hm
  rcases hm with ⟨h, rfl, rfl⟩ | ⟨h, rfl, rfl⟩ | ⟨h, rfl, rfl⟩ | ⟨h, rfl, rfl⟩ | ⟨h, rfl, rfl⟩ | ⟨h, rfl, rfl⟩ | ⟨h, rfl, rfl⟩ | ⟨h, rfl, rfl⟩ | ⟨h, rfl, rfl⟩
  · exact ⟨by simp, lin_spec A h hc⟩
  · exact ⟨by simp, ne_spec A h rfl rfl hc⟩
  · exact ⟨by simp, allDiff_spec A h rfl hc⟩
  · exact ⟨by simp, element_spec A h rfl rfl hc⟩
  · exact ⟨by simp, maxK_spec A h rfl rfl hc⟩
  · exact ⟨by simp, minK_spec A h rfl rfl hc⟩
  · exact ⟨by simp, reif_spec A h rfl hc⟩
  · exact ⟨by simp, table_spec A h hc hr⟩
  · exact ⟨by simp, count_spec A h hc⟩

theorem holds_spec (c : Con) (values : List Int) (hc : okCon c) (hv : values.length ≤ maxLen) (hk : KindOk c) : Pf Try.prog model_Holds.id [.agg c.cells, vInts values] (.bool (holdsB c values)) := by
  have hc0 := hc
  obtain ⟨_, _, _, _, _, _, _, _, _, _, hrows⟩ := hc0
  refine DC.of model_Holds.ok (by simp) ?_
  unfold model_Holds.ir
  refine vc_cut (fun s => gt s.sl 2 = .ptr 0 1 0 0 ∧ gt s.sl 3 = .ptr 1 1 0 0 ∧ s.hp = [.mem false [] [c.cells], .mem false [] [[vInts values]]]) (by simp [Con.cells, vTerms, vInts, vIntss]) ?_
  rintro ⟨sl, hp, bs⟩ ⟨h2, h3, rfl⟩
  refine vc_cut (fun s => gt s.sl 2 = .ptr 0 1 0 0 ∧ gt s.sl 3 = .ptr 1 1 0 0 ∧ s.hp = [.mem false [] [c.cells], .mem false [] [[vInts values]]] ∧ conB c values.length = 0 ∧ greatB values = false) ?_ ?_
  · simp [h2, h3, Con.cells, vTerms, vInts, vIntss]
    refine (con_spec c values.length hc).use ?_
    by_cases hb : conB c values.length = 0
    · simp [hb]
      refine (sized_spec values hv).use ?_
      cases hg : greatB values
      · simp [h2, h3, Con.cells, vTerms, vInts, vIntss]
      · simp [h2, h3, holdsB, hb, hg, model_Holds.rs]
    · simp [hb, holdsB, model_Holds.rs]
  rintro ⟨sl, hp, bs⟩ ⟨h2, h3, rfl, hb, hg⟩
  have hH : holdsB c values = holdsK c (atI values) := by simp [holdsB, hb, hg]
  rw [hH]
  simp [h2, h3, Con.cells, vTerms, vInts, vIntss]
  refine kinds_spec.use ?_
  have hkey := kindEnts_key
  rcases kindEnts_get c.kind with ⟨h1, _⟩ | ⟨n, f, h1, hmem, h3'⟩
  · simp [conB, h1] at hb
  have hcN : conN c values.length n = 0 := by simpa [conB, h1] using hb
  obtain ⟨hokf, hrun⟩ := kind_run hk hmem (ConOk.of hcN) hg fun r hr => (hrows r hr).1
  simp [kindsV, h3', Needs.cells, hokf]
  refine ⟨⟨fun a b h => hkey _ h, rfl⟩, ?_⟩
  refine DP.mono (show DP Try.prog f _ _ from hrun) fun r hr => ?_
  subst hr
  simp [model_Holds.rs]

theorem solution1_spec (c : Con) (values : List Int) (hc : okCon c) (hv : values.length ≤ maxLen) (hk : KindOk c) : Pf Try.prog model_Solution_1.id [.agg c.cells, .ref [vInts values] 0] (.bool (!holdsB c values)) := by
  refine DC.of model_Solution_1.ok (by simp) ?_
  simp [model_Solution_1.ir, model_Solution_1.rs, Con.cells, vTerms, vInts, vIntss]
  exact (holds_spec c values hc hv hk).use (by simp)
end Go.Abs.G

namespace Go.Abs.G
open Go.Proofs
set_option linter.unusedVariables false
set_option linter.unusedSimpArgs false

theorem solution_spec (m : Model) (values : List Int) (hm' : okModel m) (hv : values.length ≤ maxLen) (hk : ∀ c ∈ m.cons, KindOk c) : Pf Try.prog model_Solution.id [.agg m.cells, vInts values] (.bool (solB m values)) := by
  have hm : (maxLen : Int) ≤ 9223372036854775807 := by decide
  have hmm := hm'
  obtain ⟨⟨hv1, _⟩, ⟨hc, hc'⟩, _, _⟩ := hmm
  refine DC.of model_Solution.ok (by simp) ?_
  unfold model_Solution.ir
  refine vc_cut (fun s => gt s.sl 2 = .ptr 0 1 0 0 ∧ gt s.sl 3 = .ptr 1 1 0 0 ∧ s.hp = [.mem false [] [m.cells], .mem false [] [[vInts values]]]) (by simp [Model.cells, vVars, vCons, vTerms, vInts]) ?_
  rintro ⟨sl, hp, bs⟩ ⟨h2, h3, rfl⟩
  refine vc_cut (fun s => gt s.sl 2 = .ptr 0 1 0 0 ∧ gt s.sl 3 = .ptr 1 1 0 0 ∧ s.hp = [.mem false [] [m.cells], .mem false [] [[vInts values]]] ∧ rightB m = true ∧ values.length = m.vars.length) ?_ ?_
  · simp [h2, h3, Model.cells, vVars, vCons, vTerms, vInts]
    refine (right_spec m hm').use ?_
    cases hr : rightB m
    · simp [solB, hr, model_Solution.rs]
    by_cases hl : values.length = m.vars.length
    · have hl' : (values.length : Int) = m.vars.length := by omega
      simp [hl, hl', h2, h3, Model.cells, vVars, vCons, vTerms, vInts]
    · have hl' : ¬ (values.length : Int) = m.vars.length := by omega
      simp [solB, hr, hl, hl', h2, h3, Model.cells, vVars, vCons, vTerms, vInts, model_Solution.rs]
  rintro ⟨sl, hp, bs⟩ ⟨h2, h3, rfl, hr, hl⟩
  have hS : solB m values = (inBounds m values && m.cons.all fun c => holdsB c values) := by simp [solB, hr, hl]
  rw [hS]
  refine vc_cut (fun s => gt s.sl 2 = .ptr 0 1 0 0 ∧ gt s.sl 3 = .ptr 1 1 0 0 ∧ s.hp = [.mem false [] [m.cells], .mem false [] [[vInts values]]] ∧ inBounds m values = true) ?_ ?_
  · simp [h2, h3, Model.cells, vVars, vCons, vTerms, vInts]
    have hzl : (m.vars.zip values).length = m.vars.length := by simp [hl]
    refine WI.mono (Q := fun e s => (e = .exit 0 ∧ gt s.sl 2 = .ptr 0 1 0 0 ∧ gt s.sl 3 = .ptr 1 1 0 0 ∧ s.hp = [.mem false [] [m.cells], .mem false [] [[vInts values]]] ∧ inBounds m values = true) ∨ (e = .ret ∧ inBounds m values = false ∧ gt s.sl 4 = .bool false)) (WI.loop 2 (by simp) (fun s => ∃ i, i ≤ m.vars.length ∧ gt s.sl 2 = .ptr 0 1 0 0 ∧ gt s.sl 3 = .ptr 1 1 0 0 ∧ gt s.sl 19 = vVars m.vars ∧ gt s.sl 20 = V.i m.vars.length ∧ gt s.sl 21 = V.i i ∧ s.hp = [.mem false [] [m.cells], .mem false [] [[vInts values]]] ∧ (((m.vars.zip values).take i).all fun p => decide (p.1.lo ≤ p.2) && decide (p.2 ≤ p.1.hi)) = true) (fun s => (m.vars.length - (gt s.sl 21).num).toNat) ?_ ?_) ?_
    · exact ⟨0, by simp [h2, h3, Model.cells, vVars, vCons, vTerms, vInts]⟩
    · rintro ⟨sl, hp, bs⟩ ⟨i, hi, h2, h3, h19, h20, h21, rfl, he⟩
      by_cases hil : i < m.vars.length
      · have hil2 : i < values.length := by omega
        have hw : IntKind.i64.wrap ((i : Int) + 1) = ((i + 1 : Nat) : Int) := by rw [wrap64] <;> omega
        have hz : (m.vars.zip values)[i]'(by omega) = (m.vars[i], values[i]) := by simp
        have hs : (((m.vars.zip values).take (i + 1)).all fun p => decide (p.1.lo ≤ p.2) && decide (p.2 ≤ p.1.hi)) = (decide (m.vars[i].lo ≤ values[i]) && decide (values[i] ≤ m.vars[i].hi)) := by
          rw [List.take_succ_eq_append_getElem (by omega), List.all_append, he, hz]; simp
        have hbad : (decide (m.vars[i].lo ≤ values[i]) && decide (values[i] ≤ m.vars[i].hi)) = false → inBounds m values = false := by
          intro h
          unfold inBounds
          rw [List.all_eq_false]
          exact ⟨_, List.getElem_mem (by omega : i < (m.vars.zip values).length), by rw [hz]; simpa using h⟩
        by_cases hlo : values[i] < m.vars[i].lo
        · have hb := hbad (by simp; omega)
          simp [model_Solution.b0, h2, h3, h19, h20, h21, hil, hil2, Var.cells, Model.cells, vVars, vCons, vTerms, vInts, hlo, hb]
        · by_cases hhi : m.vars[i].hi < values[i]
          · have hb := hbad (by simp; omega)
            simp [model_Solution.b0, h2, h3, h19, h20, h21, hil, hil2, Var.cells, Model.cells, vVars, vCons, vTerms, vInts, hlo, hhi, hb]
          · have hs' : (((m.vars.zip values).take (i + 1)).all fun p => decide (p.1.lo ≤ p.2) && decide (p.2 ≤ p.1.hi)) = true := by rw [hs]; simp; omega
            simp [model_Solution.b0, h2, h3, h19, h20, h21, hil, hil2, Var.cells, Model.cells, vVars, vCons, vTerms, vInts, hlo, hhi, hw]
            exact ⟨⟨i + 1, by omega, by omega, by simpa using hs'⟩, by omega⟩
      · obtain rfl : i = m.vars.length := by omega
        have hfin : inBounds m values = true := by
          unfold inBounds
          rw [List.take_of_length_le (by omega)] at he
          exact he
        simp [model_Solution.b0, h2, h3, h19, h20, h21, hfin]
    · rintro e ⟨sl, hp, bs⟩ (⟨rfl, h2, h3, rfl, hb⟩ | ⟨rfl, hb, h4⟩)
      · simp [h2, h3, hb, Model.cells, vVars, vCons, vTerms, vInts]
      · simp [hb, h4, model_Solution.rs]
  rintro ⟨sl, hp, bs⟩ ⟨h2, h3, rfl, hb⟩
  simp [h2, h3, hb, Model.cells, vVars, vCons, vTerms, vInts]
  refine DP.mono (contains_con_spec (p := fun c => !holdsB c values) (cap := [.ref [vInts values] 0]) (l := m.cons) (by simp) (by simp) (fun t ht => solution1_spec t values (hc' t ht) hv (hk t ht)) hc) fun r hr' => ?_
  subst hr'
  simp [model_Solution.rs]
  exact List.not_all_eq_any_not.symm

theorem product_spec (m : Model) (most : Int) (hm' : okModel m) (h64 : I64 most) : Pf Try.prog model_Product.id [.agg m.cells, V.i most] (.tup [V.i (prodB m most).1, .bool (prodB m most).2]) := by
  have hm : (maxLen : Int) ≤ 9223372036854775807 := by decide
  refine DC.of model_Product.ok (by simp) ?_
  unfold model_Product.ir
  refine vc_cut (fun s => gt s.sl 1 = V.i most ∧ gt s.sl 2 = .ptr 0 1 0 0 ∧ s.hp = [.mem false [] [m.cells]]) (by simp [Model.cells, vVars, vCons, vTerms]) ?_
  rintro ⟨sl, hp, bs⟩ ⟨h1, h2, rfl⟩
  refine vc_cut (fun s => gt s.sl 1 = V.i most ∧ gt s.sl 2 = .ptr 0 1 0 0 ∧ s.hp = [.mem false [] [m.cells]] ∧ rightB m = true ∧ ¬ most < 1) ?_ ?_
  · simp [h1, h2, Model.cells, vVars, vCons, vTerms]
    refine (right_spec m hm').use ?_
    cases hr : rightB m
    · simp [prodB, hr, model_Product.rs]
    · by_cases h : most < 1 <;> simp [prodB, hr, h, h1, h2, Model.cells, vVars, vCons, vTerms, model_Product.rs]
  rintro ⟨sl, hp, bs⟩ ⟨h1, h2, rfl, hr, hmost⟩
  have hR := right_iff.1 hr
  have hB : prodB m most = prodFrom most 1 m.vars := by simp [prodB, hr, hmost]
  have hnv := hR.nv
  rw [hB]
  simp [h1, h2, Model.cells, vVars, vCons, vTerms]
  refine WI.mono (Q := fun e s => (e = .exit 0 ∧ ∃ N, prodFrom most 1 m.vars = (N, true) ∧ gt s.sl 6 = V.i N) ∨ (e = .ret ∧ prodFrom most 1 m.vars = (0, false) ∧ gt s.sl 4 = V.i 0 ∧ gt s.sl 5 = .bool false)) (WI.loop 1 (by simp) (fun s => ∃ i N, i ≤ m.vars.length ∧ gt s.sl 1 = V.i most ∧ gt s.sl 6 = V.i N ∧ gt s.sl 18 = vVars m.vars ∧ gt s.sl 19 = V.i m.vars.length ∧ gt s.sl 20 = V.i i ∧ s.hp = [.mem false [] [m.cells]] ∧ 1 ≤ N ∧ N ≤ most ∧ prodFrom most 1 m.vars = prodFrom most N (m.vars.drop i)) (fun s => (m.vars.length - (gt s.sl 20).num).toNat) ?_ ?_) ?_
  · exact ⟨0, 1, by simp [h1, h2, Model.cells, vVars, vCons, vTerms]; exact Int.not_lt.1 hmost⟩
  · rintro ⟨sl, hp, bs⟩ ⟨i, N, hi, h1, h6, h18, h19, h20, rfl, hN1, hN2, he⟩
    by_cases hil : i < m.vars.length
    · have hw : IntKind.i64.wrap ((i : Int) + 1) = ((i + 1 : Nat) : Int) := by rw [wrap64] <;> omega
      have hvo := VarOk.of (hR.var i _ (List.getElem?_eq_getElem hil))
      rw [List.drop_eq_getElem_cons hil] at he
      simp only [prodFrom] at he
      have l1 := hvo.lo; have l2 := hvo.hi; have l3 := hvo.le; have l4 := hvo.dom
      obtain ⟨_, h64⟩ := h64
      generalize hv : m.vars[i] = v at *
      have hw1 : IntKind.i64.wrap (v.hi - v.lo) = v.hi - v.lo := by rw [wrap64] <;> omega
      have hw2 : IntKind.i64.wrap (v.hi - v.lo + 1) = v.hi - v.lo + 1 := by rw [wrap64] <;> omega
      generalize hsz : v.hi - v.lo + 1 = sz at *
      have hsz1 : 1 ≤ sz := by omega
      have hq0 : 0 ≤ most.tdiv sz := Int.tdiv_nonneg (by omega) (by omega)
      have hq1 : most.tdiv sz * sz ≤ most := by
        rw [Int.tdiv_eq_ediv_of_nonneg (by omega)]
        exact Int.ediv_mul_le _ (by omega)
      have hq2 : most.tdiv sz ≤ most := by
        rw [Int.tdiv_eq_ediv_of_nonneg (by omega)]
        exact Int.ediv_le_self _ (by omega)
      have hw3 : IntKind.i64.wrap (most.tdiv sz) = most.tdiv sz := by rw [wrap64] <;> omega
      have hsz0 : ¬ sz = 0 := by omega
      by_cases hlt : most.tdiv sz < N
      · rw [if_pos hlt] at he
        simp [model_Product.b0, h1, h6, h18, h19, h20, hil, hv, Var.cells, vVars, hw1, hsz, hw2, hw3, hsz0, hlt, he]
      · rw [if_neg hlt] at he
        have hle : N * sz ≤ most := Int.le_trans (Int.mul_le_mul_of_nonneg_right (by omega) (by omega)) hq1
        have hge : 1 ≤ N * sz := by
          have := Int.mul_le_mul hN1 hsz1 (by omega) (by omega)
          omega
        have hw4 : IntKind.i64.wrap (N * sz) = N * sz := by rw [wrap64] <;> omega
        simp [model_Product.b0, h1, h6, h18, h19, h20, hil, hv, Var.cells, vVars, hw1, hsz, hw2, hw3, hsz0, hlt, hw4, hw]
        exact ⟨⟨i + 1, by omega, by omega, hge, hle, he⟩, by omega⟩
    · obtain rfl : i = m.vars.length := by omega
      rw [List.drop_length] at he
      simp [model_Product.b0, h1, h6, h18, h19, h20, he, prodFrom]
  · rintro e ⟨sl, hp, bs⟩ (⟨rfl, N, he, h6⟩ | ⟨rfl, he, h4, h5⟩)
    · simp [h6, he, model_Product.rs]
    · simp [h4, h5, he, model_Product.rs]
end Go.Abs.G

namespace Go.Abs.G
open Go.Proofs
set_option linter.unusedVariables false
set_option linter.unusedSimpArgs false

def placeI (k n : Int) : Int := if k.tmod n < 0 then k.tmod n + n else k.tmod n
def insideAt (any : List Int) (i : Nat) (v : Var) : Int := if i < any.length then v.lo + placeI (any.getD i 0) (v.hi - v.lo + 1) else v.lo
def insideL (m : Model) (any : List Int) : List Int := m.vars.mapIdx fun i v => insideAt any i v

theorem placeI_bound (k : Int) {n : Int} (h : 1 ≤ n) : 0 ≤ placeI k n ∧ placeI k n < n := by
  have h1 : k.tmod n < n := Int.tmod_lt_of_pos k (by omega)
  have h2 : -n < k.tmod n := Int.lt_tmod_of_pos k (by omega)
  unfold placeI
  split <;> omega

theorem place_spec (k n : Int) (h : 1 ≤ n) (h2 : n ≤ 4611686018427387904) : Pf Try.prog hallmarklaw4_place.id [V.i k, V.i n] (V.i (placeI k n)) := by
  refine DC.of hallmarklaw4_place.ok (by simp) ?_
  have h1 : k.tmod n < n := Int.tmod_lt_of_pos k (by omega)
  have h3 : -n < k.tmod n := Int.lt_tmod_of_pos k (by omega)
  have hn : ¬ n = 0 := by omega
  have hw : IntKind.i64.wrap (k.tmod n) = k.tmod n := by rw [wrap64] <;> omega
  have hw2 : k.tmod n < 0 → IntKind.i64.wrap (k.tmod n + n) = k.tmod n + n := fun h => by rw [wrap64] <;> omega
  by_cases hs : k.tmod n < 0
  · simp [hallmarklaw4_place.ir, hallmarklaw4_place.rs, hn, hw, hs, hw2 hs, placeI]
  · simp [hallmarklaw4_place.ir, hallmarklaw4_place.rs, hn, hw, hs, placeI]

theorem inside_spec (m : Model) (any : List Int) (hm' : okModel m) (hR : Right m) (ha : any.length ≤ maxLen) :
    DC Try.prog hallmarklaw4_inside.id [.agg m.cells, vInts any] [] (fun r H => ∃ o1 o2, r = .own 2 1 0 m.vars.length m.vars.length ∧ H = [o1, o2, .mem false [] ((insideL m any).map fun n => [V.i n])]) := by
  have hm : (maxLen : Int) ≤ 9223372036854775807 := by decide
  have hnv := hR.nv
  refine DC.of hallmarklaw4_inside.ok (by simp) ?_
  simp [hallmarklaw4_inside.ir, hallmarklaw4_inside.rs, Model.cells, vVars, vCons, vTerms, vInts]
  refine WI.mono (Q := fun e s => e = .exit 0 ∧ ∃ o2, gt s.sl 5 = .own 2 1 0 m.vars.length m.vars.length ∧ s.hp = [.mem false [] [m.cells], o2, .mem false [] ((insideL m any).map fun n => [V.i n])]) (WI.loop 3 (by simp) (fun s => ∃ i, i ≤ m.vars.length ∧ gt s.sl 1 = vInts any ∧ gt s.sl 2 = .ptr 0 1 0 0 ∧ gt s.sl 6 = V.i i ∧
      ((i = 0 ∧ gt s.sl 5 = .a (.slice none 0 0) ∧ s.hp = [.mem false [] [m.cells]]) ∨ ∃ o, 0 < i ∧ gt s.sl 5 = .own 2 1 0 i i ∧ s.hp = [.mem false [] [m.cells], o, .mem false [] (((insideL m any).take i).map fun n => [V.i n])])) (fun s => (m.vars.length - (gt s.sl 6).num).toNat) ?_ ?_) ?_
  · exact ⟨0, by simp [Model.cells, vVars, vCons, vTerms, vInts]⟩
  · rintro ⟨sl, hp, bs⟩ ⟨i, hi, h1, h2, h6, hcase⟩
    have hlen : (insideL m any).length = m.vars.length := by simp [insideL]
    by_cases hil : i < m.vars.length
    · have hw : IntKind.i64.wrap ((i : Int) + 1) = ((i + 1 : Nat) : Int) := by rw [wrap64] <;> omega
      have hvo := VarOk.of (hR.var i _ (List.getElem?_eq_getElem hil))
      have l1 := hvo.lo; have l2 := hvo.hi; have l3 := hvo.le; have l4 := hvo.dom
      have hget : (insideL m any)[i]'(by omega) = insideAt any i m.vars[i] := by simp [insideL]
      have htk : ((insideL m any).take (i + 1)).map (fun n => [V.i n]) = ((insideL m any).take i).map (fun n => [V.i n]) ++ [[V.i (insideAt any i m.vars[i])]] := by
        rw [List.take_succ_eq_append_getElem (by omega), List.map_append, hget]; rfl
      generalize hv : m.vars[i] = v at *
      have g6 := h6
      have hp0 : hp[0]? = some (.mem false [] [m.cells]) := by rcases hcase with ⟨_, _, rfl⟩ | ⟨o, _, _, rfl⟩ <;> rfl
      obtain ⟨x5, h5⟩ : ∃ x, gt sl 5 = x := ⟨_, rfl⟩
      have hcase' : (i = 0 ∧ x5 = .a (.slice none 0 0) ∧ hp = [.mem false [] [m.cells]]) ∨ ∃ o, 0 < i ∧ x5 = .own 2 1 0 i i ∧ hp = [.mem false [] [m.cells], o, .mem false [] (((insideL m any).take i).map fun n => [V.i n])] := by
        rw [← h5]; exact hcase
      clear hcase
      unfold hallmarklaw4_inside.b0
      refine vc_cut (fun s => gt s.sl 1 = vInts any ∧ gt s.sl 2 = .ptr 0 1 0 0 ∧ gt s.sl 5 = x5 ∧ gt s.sl 6 = V.i i ∧ s.hp = hp) (by simp [h1, h2, h5, h6, hp0, hil, Model.cells, vVars]) ?_
      rintro s ⟨h1, h2, h5, h6, he⟩
      refine vc_cut (fun s => gt s.sl 1 = vInts any ∧ gt s.sl 2 = .ptr 0 1 0 0 ∧ gt s.sl 6 = V.i i ∧ ∃ o, gt s.sl 5 = .own 2 1 0 (i + 1) (i + 1) ∧ s.hp.take 3 = [.mem false [] [m.cells], o, .mem false [] (((insideL m any).take (i + 1)).map fun n => [V.i n])]) (vc_block_of ?_) ?_
      · refine vc_cut (fun s => gt s.sl 1 = vInts any ∧ gt s.sl 2 = .ptr 0 1 0 0 ∧ gt s.sl 5 = x5 ∧ gt s.sl 6 = V.i i ∧ gt s.sl 7 = V.i v.lo ∧ s.hp = hp) (by simp [h1, h2, h5, h6, he, hp0, hil, Model.cells, vVars, hv, Var.cells]) ?_
        rintro s ⟨h1, h2, h5, h6, h7, he⟩
        refine vc_cut (fun s => gt s.sl 1 = vInts any ∧ gt s.sl 2 = .ptr 0 1 0 0 ∧ gt s.sl 5 = x5 ∧ gt s.sl 6 = V.i i ∧ gt s.sl 7 = V.i (insideAt any i v) ∧ s.hp = hp) ?_ ?_
        · by_cases hia : i < any.length
          · have hw1 : IntKind.i64.wrap (v.hi - v.lo) = v.hi - v.lo := by rw [wrap64] <;> omega
            have hw2 : IntKind.i64.wrap (v.hi - v.lo + 1) = v.hi - v.lo + 1 := by rw [wrap64] <;> omega
            have hpl := placeI_bound any[i] (n := v.hi - v.lo + 1) (by omega)
            have hw3 : IntKind.i64.wrap (v.lo + placeI any[i] (v.hi - v.lo + 1)) = v.lo + placeI any[i] (v.hi - v.lo + 1) := by rw [wrap64] <;> omega
            simp [h1, h2, h5, h6, h7, he, hp0, hil, Model.cells, vVars, hv, Var.cells, vInts, hia, hw1, hw2]
            refine (place_spec any[i] (v.hi - v.lo + 1) (by omega) (by omega)).use ?_
            simp [insideAt, hia, hw3, he]
          · simp [h1, h2, h5, h6, h7, he, vInts, hia, insideAt]
        rintro s ⟨q1, q2, q5, q6, q7, qe⟩
        have hge := List.length_take_of_le (show i ≤ (insideL m any).length by omega)
        rw [htk]
        rcases hcase' with ⟨rfl, rfl, rfl⟩ | ⟨o, h0, rfl, rfl⟩
        · simp [q1, q2, q5, q6, q7, qe]
        · simp [q1, q2, q5, q6, q7, qe, hlen]
          omega
      rintro ⟨sl, hp', bs⟩ ⟨q1, q2, q6, o, q5, hp3⟩
      have hp4 : List.take 3 (List.map (limO 3) hp') = List.map (limO 3) [.mem false [] [m.cells], o, .mem false [] (((insideL m any).take (i + 1)).map fun n => [V.i n])] := by rw [← List.map_take, hp3]
      simp [q1, q2, q5, q6, hw, g6, vInts, hp4]
      exact ⟨⟨i + 1, by omega, by omega, by omega, rfl, rfl⟩, by omega⟩
    · obtain rfl : i = m.vars.length := by omega
      have hne : ¬ m.vars.length = 0 := by omega
      rcases hcase with ⟨h0, _, _⟩ | ⟨o, h0, h5, rfl⟩
      · exact absurd h0 hne
      · rw [List.take_of_length_le (by omega)] at *
        simp [hallmarklaw4_inside.b0, h1, h2, h5, h6, Model.cells, vVars]
  · rintro e ⟨sl, hp, bs⟩ ⟨rfl, o, h5, rfl⟩
    simp [h5]

/-- The chapter's two variables. -/
def twoM : Model := ⟨[⟨⟨#[120]⟩, 0, 3⟩, ⟨⟨#[121]⟩, -1, 2⟩], [], true, [⟨3, 0⟩, ⟨-2, 1⟩]⟩

theorem two_spec : DC Try.prog hallmarklaw4_two.id [] [] (fun r H => r = .agg [.own 1 3 0 2 2, .a (.slice none 0 0), .bool true, .own 2 2 0 2 2] ∧ ∃ o, H = [.mem false [1, 2] o, .mem false [] (twoM.vars.map Var.cells), .mem false [] (twoM.goal.map Term.cells)]) := by
  refine DC.of hallmarklaw4_two.ok (by simp) ?_
  simp [hallmarklaw4_two.ir, hallmarklaw4_two.rs, twoM, Var.cells, Term.cells]

theorem holds_use {c : Con} {values : List Int} {xs : List V} {b : Bool} {Q : V → Prop} (hs : V.subL xs [.agg c.cells, vInts values]) (hc : okCon c) (hv : values.length ≤ maxLen) (hk : KindOk c) (hb : holdsB c values = b) (hq : Q (.bool b)) : DP Try.prog model_Holds.id xs Q :=
  DP.mono (DP.sub hs (holds_spec c values hc hv hk)) fun r hr => by rw [hr, hb]; exact hq

def linC : Con := ⟨1, 1, [⟨2, 0⟩, ⟨-1, 1⟩], 4, 0, 0, 0, [], [], []⟩
def neC : Con := ⟨2, 0, [], 1, 0, 0, 1, [], [], []⟩
def elC : Con := ⟨4, 0, [], 0, 0, 0, 1, [], [2, 0], []⟩
def reC : Con := ⟨7, 0, [⟨1, 0⟩, ⟨1, 1⟩], 1, 0, 0, 0, [], [], []⟩
def rowC : Con := ⟨8, 0, [], 0, 0, 0, 0, [0, 1], [], [[0, 1], [3, -1]]⟩
def tiC : Con := ⟨9, 2, [], 2, 2, 0, 0, [0, 1, 1], [], []⟩

theorem known_values : holdsB linC [2, 0] = true ∧ holdsB linC [3, 2] = true ∧ holdsB neC [0, 1] = true ∧ holdsB elC [1, 0] = true ∧ holdsB reC [1, 0] = true ∧
    holdsB linC [3, 1] = false ∧ holdsB neC [1, 0] = false ∧ holdsB elC [2, 2] = false ∧ holdsB reC [0, 1] = false ∧ holdsB reC [2, 2] = false ∧
    holdsB rowC [3, -1] = true ∧ holdsB rowC [0, -1] = false ∧ holdsB tiC [0, 2] = true ∧ holdsB tiC [2, 2] = false := by
  refine ⟨?_, ?_, ?_, ?_, ?_, ?_, ?_, ?_, ?_, ?_, ?_, ?_, ?_, ?_⟩ <;> decide

theorem known_two : checkB twoM = (0, 0) ∧ prodB twoM 16 = (16, true) ∧ (prodB twoM 15).2 = false ∧ endsB twoM true = -4 ∧ endsB twoM false = 11 ∧ worthB twoM [1, 2] = -1 ∧ solB twoM [1, 2] = true ∧
    (checkB { twoM with vars := [⟨⟨#[57, 97]⟩, 0, 3⟩, ⟨⟨#[121]⟩, -1, 2⟩] }).2 = 41 := by
  refine ⟨?_, ?_, ?_, ?_, ?_, ?_, ?_, ?_⟩ <;> decide

theorem known_ok : okCon linC ∧ okCon neC ∧ okCon elC ∧ okCon reC ∧ okCon rowC ∧ okCon tiC := by
  refine ⟨?_, ?_, ?_, ?_, ?_, ?_⟩ <;> simp [okCon, okTerms, okInts, okTerm, I64, linC, neC, elC, reC, rowC, tiC, maxLen]
end Go.Abs.G

namespace Go.Abs.G
open Go.Proofs
set_option linter.unusedVariables false
set_option linter.unusedSimpArgs false

theorem known_kinds : KindOk linC ∧ KindOk neC ∧ KindOk elC ∧ KindOk reC ∧ KindOk rowC ∧ KindOk tiC := by
  refine ⟨?_, ?_, ?_, ?_, ?_, ?_⟩ <;> simp [KindOk, linC, neC, elC, reC, rowC, tiC]

theorem sub_use {id : FuncId} {xs ys : List V} {r : V} {Q : V → Prop} (hs : V.subL xs ys) (h : Pf Try.prog id ys r) (hq : Q r) : DP Try.prog id xs Q := DP.sub hs (h.use hq)

theorem known_two_ok : okModel twoM := by
  simp [okModel, okVar, okTerms, okTerm, I64, twoM, maxLen]
  exact ⟨by decide, by decide⟩

abbrev nl : V := .a (.slice none 0 0)
abbrev pair (a b : Int) : List V := [V.i a, V.i b]
/-- The first four constraints of the chapter, as they lie. -/
def kH : Heap := [.mem false [] [pair 2 0, pair (-1) 1], .mem false [0] [[V.i 1, V.i 1, .own 0 2 0 2 2, V.i 4, V.i 0, V.i 0, V.i 0, nl, nl, nl]],
  .mem false [] [[V.i 2, V.i 0, nl, V.i 1, V.i 0, V.i 0, V.i 1, nl, nl, nl]],
  .mem false [] [[V.i 2], [V.i 0]], .mem false [3] [[V.i 4, V.i 0, nl, V.i 0, V.i 0, V.i 0, V.i 1, nl, .own 3 1 0 2 2, nl]],
  .mem false [] [pair 1 0, pair 1 1], .mem false [5] [[V.i 7, V.i 0, .own 5 2 0 2 2, V.i 1, V.i 0, V.i 0, V.i 0, nl, nl, nl]]]

def tailC : Nat → C → C
  | n + 1, .seq _ b => tailC n b
  | _, c => c

def twoM' : Model := { twoM with vars := [⟨⟨#[57, 97]⟩, 0, 3⟩, ⟨⟨#[121]⟩, -1, 2⟩] }
theorem known_two_ok' : okModel twoM' := by
  simp [okModel, okVar, okTerms, okTerm, I64, twoM, twoM', maxLen]
  exact ⟨by decide, by decide⟩

theorem known_last (s s7 : St) (hL : s.hp.length = 28) (q9 : gt s7.sl 9 = .ptr 28 1 0 0) (he : ∃ R O os, s7.hp = s.hp ++ [.mem false R [[.own 30 3 0 2 2, nl, .bool true, .own 31 2 0 2 2]], O, .mem false [] (twoM.vars.map Var.cells), .mem false [] (twoM.goal.map Term.cells)] ++ os) :
    vc Try.prog (tailC 15 hallmarklaw4_known.ir) (fun e s => match e with | .exit _ => False | _ => resP s hallmarklaw4_known.rs ∧ (resV s hallmarklaw4_known.rs).fzP s.hp ∧ (resV s hallmarklaw4_known.rs).fz s.hp = .bool true) s7 := by
  obtain ⟨w1, w2, w3, w4, w5, w6, w7, w8⟩ := known_two
  obtain ⟨R, O, os, he⟩ := he
  have c1 := check_spec twoM' known_two_ok'
  unfold hallmarklaw4_known.ir
  simp only [tailC]
  refine vc_cut (fun s' => gt s'.sl 9 = .ptr 28 1 0 0 ∧ s'.hp = s.hp ++ [.mem false R [[.own 30 3 0 2 2, nl, .bool true, .own 31 2 0 2 2]], O, .mem false [] (twoM'.vars.map Var.cells), .mem false [] (twoM.goal.map Term.cells)] ++ os) ?_ ?_
  · simp -dsimp [List.getElem?_append, List.set_append, hL, q9, he, twoM, twoM', Var.cells, Term.cells]
  rintro s8 ⟨q9, he⟩
  refine vc_cut (fun s' => gt s'.sl 11 = V.i 41) ?_ ?_
  · simp -dsimp [↓callb_fn, List.getElem?_append, List.set_append, hL, q9, he, twoM, twoM', Var.cells, Term.cells]
    refine sub_use ?_ c1 ?_
    · repeat' (first | exact V.subL.nil | apply V.subL.cons | exact V.sub.refl _ | exact V.sub.nil _ | apply V.sub.agg)
    simp -dsimp
    exact w8
  rintro s9 q11
  simp [q11, hallmarklaw4_known.rs]
end Go.Abs.G

namespace Go.Abs.G
open Go.Proofs
set_option linter.unusedVariables false
set_option linter.unusedSimpArgs false

set_option maxRecDepth 20000 in
set_option maxHeartbeats 4000000 in
theorem known_spec : Pf Try.prog hallmarklaw4_known.id [] (.bool true) := by
  refine DC.of hallmarklaw4_known.ok (by simp) ?_
  unfold hallmarklaw4_known.ir
  obtain ⟨v1, v2, v3, v4, v5, v6, v7, v8, v9, v10, v11, v12, v13, v14⟩ := known_values
  obtain ⟨w1, w2, w3, w4, w5, w6, w7, w8⟩ := known_two
  obtain ⟨o1, o2, o3, o4, o5, o6⟩ := known_ok
  have c1 := check_spec twoM known_two_ok
  rw [w1] at c1
  have c2 := product_spec twoM 16 known_two_ok (by constructor <;> decide)
  rw [w2] at c2
  have c3 := product_spec twoM 15 known_two_ok (by constructor <;> decide)
  rw [w3] at c3
  have c4 := floor_spec twoM known_two_ok
  rw [w4] at c4
  have c5 := ceil_spec twoM known_two_ok
  rw [w5] at c5
  have c6 := worth_spec twoM [1, 2] known_two_ok (by decide)
  rw [w6] at c6
  have c7 := solution_spec twoM [1, 2] known_two_ok (by decide) (by simp [twoM])
  rw [w7] at c7
  obtain ⟨k1, k2, k3, k4, k5, k6⟩ := known_kinds
  refine vc_cut (fun s => s.hp = []) (by simp) ?_
  rintro ⟨sl, hp, bs⟩ rfl
  refine vc_cut (fun s => gt s.sl 1 = .ptr 1 1 0 0 ∧ s.hp = kH.take 2) (by simp [kH]) ?_
  rintro ⟨sl, hp, bs⟩ ⟨h1, rfl⟩
  refine vc_cut (fun s => gt s.sl 1 = .ptr 1 1 0 0 ∧ gt s.sl 2 = .ptr 2 1 0 0 ∧ s.hp = kH.take 3) (by simp [h1, kH]) ?_
  rintro ⟨sl, hp, bs⟩ ⟨h1, h2, rfl⟩
  refine vc_cut (fun s => gt s.sl 1 = .ptr 1 1 0 0 ∧ gt s.sl 2 = .ptr 2 1 0 0 ∧ gt s.sl 3 = .ptr 4 1 0 0 ∧ s.hp = kH.take 5) (by simp [h1, h2, kH]) ?_
  rintro ⟨sl, hp, bs⟩ ⟨h1, h2, h3, rfl⟩
  refine vc_cut (fun s => gt s.sl 1 = .ptr 1 1 0 0 ∧ gt s.sl 2 = .ptr 2 1 0 0 ∧ gt s.sl 3 = .ptr 4 1 0 0 ∧ gt s.sl 4 = .ptr 6 1 0 0 ∧ s.hp = kH) (by simp [h1, h2, h3, kH]) ?_
  rintro ⟨sl, hp, bs⟩ ⟨h1, h2, h3, h4, rfl⟩
  refine vc_cut (fun s => gt s.sl 1 = .ptr 1 1 0 0 ∧ gt s.sl 2 = .ptr 2 1 0 0 ∧ gt s.sl 3 = .ptr 4 1 0 0 ∧ gt s.sl 4 = .ptr 6 1 0 0 ∧ gt s.sl 5 = .bool true ∧ ∃ os, os.length = 5 ∧ s.hp = kH ++ os) ?_ ?_
  · simp -dsimp [↓callb_fn, h1, h2, h3, h4, kH]
    refine holds_use (c := linC) (values := [2, 0]) ?_ o1 (by decide) k1 v1 ?_
    · repeat' (first | exact V.subL.nil | apply V.subL.cons | exact V.sub.refl _ | exact V.sub.nil _ | apply V.sub.agg)
    simp -dsimp [↓callb_fn, h1, h2, h3, h4, kH]
    refine holds_use (c := linC) (values := [3, 2]) ?_ o1 (by decide) k1 v2 ?_
    · repeat' (first | exact V.subL.nil | apply V.subL.cons | exact V.sub.refl _ | exact V.sub.nil _ | apply V.sub.agg)
    simp -dsimp [↓callb_fn, h1, h2, h3, h4, kH]
    refine holds_use (c := neC) (values := [0, 1]) ?_ o2 (by decide) k2 v3 ?_
    · repeat' (first | exact V.subL.nil | apply V.subL.cons | exact V.sub.refl _ | exact V.sub.nil _ | apply V.sub.agg)
    simp -dsimp [↓callb_fn, h1, h2, h3, h4, kH]
    refine holds_use (c := elC) (values := [1, 0]) ?_ o3 (by decide) k3 v4 ?_
    · repeat' (first | exact V.subL.nil | apply V.subL.cons | exact V.sub.refl _ | exact V.sub.nil _ | apply V.sub.agg)
    simp -dsimp [↓callb_fn, h1, h2, h3, h4, kH]
    refine holds_use (c := reC) (values := [1, 0]) ?_ o4 (by decide) k4 v5 ?_
    · repeat' (first | exact V.subL.nil | apply V.subL.cons | exact V.sub.refl _ | exact V.sub.nil _ | apply V.sub.agg)
    simp -dsimp [↓callb_fn, h1, h2, h3, h4, kH]
  rintro s ⟨h1, h2, h3, h4, h5, os, hos, he⟩
  refine vc_cut (fun s => gt s.sl 5 = .bool true ∧ gt s.sl 6 = .bool false ∧ s.hp.length = 17) ?_ ?_
  · simp -dsimp [↓callb_fn, h1, h2, h3, h4, h5, he, hos, kH]
    refine holds_use (c := linC) (values := [3, 1]) ?_ o1 (by decide) k1 v6 ?_
    · repeat' (first | exact V.subL.nil | apply V.subL.cons | exact V.sub.refl _ | exact V.sub.nil _ | apply V.sub.agg)
    simp -dsimp [↓callb_fn, h1, h2, h3, h4, h5, he, hos, kH]
    refine holds_use (c := neC) (values := [1, 0]) ?_ o2 (by decide) k2 v7 ?_
    · repeat' (first | exact V.subL.nil | apply V.subL.cons | exact V.sub.refl _ | exact V.sub.nil _ | apply V.sub.agg)
    simp -dsimp [↓callb_fn, h1, h2, h3, h4, h5, he, hos, kH]
    refine holds_use (c := elC) (values := [2, 2]) ?_ o3 (by decide) k3 v8 ?_
    · repeat' (first | exact V.subL.nil | apply V.subL.cons | exact V.sub.refl _ | exact V.sub.nil _ | apply V.sub.agg)
    simp -dsimp [↓callb_fn, h1, h2, h3, h4, h5, he, hos, kH]
    refine holds_use (c := reC) (values := [0, 1]) ?_ o4 (by decide) k4 v9 ?_
    · repeat' (first | exact V.subL.nil | apply V.subL.cons | exact V.sub.refl _ | exact V.sub.nil _ | apply V.sub.agg)
    simp -dsimp [↓callb_fn, h1, h2, h3, h4, h5, he, hos, kH]
    refine holds_use (c := reC) (values := [2, 2]) ?_ o4 (by decide) k4 v10 ?_
    · repeat' (first | exact V.subL.nil | apply V.subL.cons | exact V.sub.refl _ | exact V.sub.nil _ | apply V.sub.agg)
    simp -dsimp [↓callb_fn, h1, h2, h3, h4, h5, he, hos, kH]
  clear h1 h2 h3 h4 h5 he os hos
  rintro s ⟨h5, h6, hL⟩
  refine vc_cut (fun s' => gt s'.sl 5 = .bool true ∧ gt s'.sl 6 = .bool false ∧ gt s'.sl 7 = .ptr 21 1 0 0 ∧ ∃ a b r, s'.hp = s.hp ++ [.mem false [] [[V.i 0], [V.i 1]], a, b, .mem false [] [[vInts [0, 1]], [vInts [3, -1]]], .mem false r [[V.i 8, V.i 0, nl, V.i 0, V.i 0, V.i 0, V.i 0, .own 17 1 0 2 2, nl, .own 20 1 0 2 2]]]) ?_ ?_
  · simp -dsimp [List.getElem?_append, List.set_append, hL, h5, h6, vInts]
  rintro s1 ⟨h5, h6, h7, a, b, r, he⟩
  refine vc_cut (fun s' => gt s'.sl 5 = .bool true ∧ gt s'.sl 6 = .bool false ∧ gt s'.sl 7 = .ptr 21 1 0 0 ∧ gt s'.sl 8 = .ptr 23 1 0 0 ∧ ∃ r2, s'.hp = s.hp ++ [.mem false [] [[V.i 0], [V.i 1]], a, b, .mem false [] [[vInts [0, 1]], [vInts [3, -1]]], .mem false r [[V.i 8, V.i 0, nl, V.i 0, V.i 0, V.i 0, V.i 0, .own 17 1 0 2 2, nl, .own 20 1 0 2 2]],
      .mem false [] [[V.i 0], [V.i 1], [V.i 1]], .mem false r2 [[V.i 9, V.i 2, nl, V.i 2, V.i 2, V.i 0, V.i 0, .own 22 1 0 3 3, nl, nl]]]) ?_ ?_
  · simp -dsimp [List.getElem?_append, List.set_append, hL, h5, h6, h7, he, vInts]
  rintro s2 ⟨h5, h6, h7, h8, r2, he2⟩
  refine vc_cut (fun s' => gt s'.sl 5 = .bool true ∧ gt s'.sl 6 = .bool false ∧ s'.hp.length = 28) ?_ ?_
  · simp -dsimp [↓callb_fn, List.getElem?_append, List.set_append, hL, h5, h6, h7, h8, he2, vInts]
    refine holds_use (c := rowC) (values := [3, -1]) ?_ o5 (by decide) k5 v11 ?_
    · repeat' (first | exact V.subL.nil | apply V.subL.cons | exact V.sub.refl _ | exact V.sub.nil _ | apply V.sub.agg)
    simp -dsimp [↓callb_fn, List.getElem?_append, List.set_append, hL, h5, h6, h7, h8, he2, vInts]
    refine holds_use (c := rowC) (values := [0, -1]) ?_ o5 (by decide) k5 v12 ?_
    · repeat' (first | exact V.subL.nil | apply V.subL.cons | exact V.sub.refl _ | exact V.sub.nil _ | apply V.sub.agg)
    simp -dsimp [↓callb_fn, List.getElem?_append, List.set_append, hL, h5, h6, h7, h8, he2, vInts]
    refine holds_use (c := tiC) (values := [0, 2]) ?_ o6 (by decide) k6 v13 ?_
    · repeat' (first | exact V.subL.nil | apply V.subL.cons | exact V.sub.refl _ | exact V.sub.nil _ | apply V.sub.agg)
    simp -dsimp [↓callb_fn, List.getElem?_append, List.set_append, hL, h5, h6, h7, h8, he2, vInts]
    refine holds_use (c := tiC) (values := [2, 2]) ?_ o6 (by decide) k6 v14 ?_
    · repeat' (first | exact V.subL.nil | apply V.subL.cons | exact V.sub.refl _ | exact V.sub.nil _ | apply V.sub.agg)
    simp -dsimp [↓callb_fn, List.getElem?_append, List.set_append, hL, h5, h6, h7, h8, he2, vInts]
  rintro s ⟨q5, q6, hL⟩
  refine vc_cut (fun s' => gt s'.sl 5 = .bool true ∧ gt s'.sl 6 = .bool false ∧ gt s'.sl 9 = .ptr 28 1 0 0 ∧ ∃ R O, s'.hp = s.hp ++ [.mem false R [[.own 30 3 0 2 2, nl, .bool true, .own 31 2 0 2 2]], O, .mem false [] (twoM.vars.map Var.cells), .mem false [] (twoM.goal.map Term.cells)]) ?_ ?_
  · simp -dsimp [↓callo_fn, List.getElem?_append, List.set_append, hL, q5, q6]
    refine DC.mono two_spec fun r H ⟨hr, o, hH⟩ => ?_
    subst hr hH
    simp -dsimp [List.getElem?_append, List.set_append, hL, q5, q6, twoM, Var.cells, Term.cells]
  rintro s3 ⟨q5, q6, q9, R, O, he⟩
  refine vc_cut (fun s' => gt s'.sl 5 = .bool true ∧ gt s'.sl 6 = .bool false ∧ gt s'.sl 9 = .ptr 28 1 0 0 ∧ gt s'.sl 10 = V.i 0 ∧ gt s'.sl 11 = V.i 0 ∧ ∃ R O, s'.hp = s.hp ++ [.mem false R [[.own 30 3 0 2 2, nl, .bool true, .own 31 2 0 2 2]], O, .mem false [] (twoM.vars.map Var.cells), .mem false [] (twoM.goal.map Term.cells)]) ?_ ?_
  · simp -dsimp [↓callb_fn, List.getElem?_append, List.set_append, hL, q5, q6, q9, he, twoM, Var.cells, Term.cells]
    refine sub_use ?_ c1 ?_
    · repeat' (first | exact V.subL.nil | apply V.subL.cons | exact V.sub.refl _ | exact V.sub.nil _ | apply V.sub.agg)
    simp -dsimp [q5, q6, q9, he, twoM, Var.cells, Term.cells]
  rintro s4 ⟨q5, q6, q9, q10, q11, R, O, he⟩
  refine vc_cut (fun s' => gt s'.sl 5 = .bool true ∧ gt s'.sl 6 = .bool false ∧ gt s'.sl 9 = .ptr 28 1 0 0 ∧ gt s'.sl 10 = V.i 0 ∧ gt s'.sl 11 = V.i 0 ∧ gt s'.sl 12 = V.i 16 ∧ gt s'.sl 13 = .bool true ∧ ∃ R O, s'.hp = s.hp ++ [.mem false R [[.own 30 3 0 2 2, nl, .bool true, .own 31 2 0 2 2]], O, .mem false [] (twoM.vars.map Var.cells), .mem false [] (twoM.goal.map Term.cells)]) ?_ ?_
  · simp -dsimp [↓callb_fn, List.getElem?_append, List.set_append, hL, q5, q6, q9, he, twoM, Var.cells, Term.cells]
    refine sub_use ?_ c2 ?_
    · repeat' (first | exact V.subL.nil | apply V.subL.cons | exact V.sub.refl _ | exact V.sub.nil _ | apply V.sub.agg)
    simp -dsimp [q5, q6, q9, q10, q11, he, twoM, Var.cells, Term.cells]
  rintro s5 ⟨q5, q6, q9, q10, q11, q12, q13, R, O, he⟩
  refine vc_cut (fun s' => gt s'.sl 5 = .bool true ∧ gt s'.sl 6 = .bool false ∧ gt s'.sl 9 = .ptr 28 1 0 0 ∧ gt s'.sl 10 = V.i 0 ∧ gt s'.sl 11 = V.i 0 ∧ gt s'.sl 12 = V.i 16 ∧ gt s'.sl 13 = .bool true ∧ gt s'.sl 15 = .bool false ∧ ∃ R O, s'.hp = s.hp ++ [.mem false R [[.own 30 3 0 2 2, nl, .bool true, .own 31 2 0 2 2]], O, .mem false [] (twoM.vars.map Var.cells), .mem false [] (twoM.goal.map Term.cells)]) ?_ ?_
  · simp -dsimp [↓callb_fn, List.getElem?_append, List.set_append, hL, q5, q6, q9, he, twoM, Var.cells, Term.cells]
    refine sub_use ?_ c3 ?_
    · repeat' (first | exact V.subL.nil | apply V.subL.cons | exact V.sub.refl _ | exact V.sub.nil _ | apply V.sub.agg)
    simp -dsimp [q5, q6, q9, q10, q11, q12, q13, he, twoM, Var.cells, Term.cells]
  rintro s6 ⟨q5, q6, q9, q10, q11, q12, q13, q15, R, O, he⟩
  refine vc_cut (fun s' => gt s'.sl 9 = .ptr 28 1 0 0 ∧ ∃ R O os, s'.hp = s.hp ++ [.mem false R [[.own 30 3 0 2 2, nl, .bool true, .own 31 2 0 2 2]], O, .mem false [] (twoM.vars.map Var.cells), .mem false [] (twoM.goal.map Term.cells)] ++ os) ?_ ?_
  · simp -dsimp [↓callb_fn, List.getElem?_append, List.set_append, hL, q5, q6, q9, q10, q11, q12, q13, q15, he, twoM, Var.cells, Term.cells]
    refine sub_use ?_ c4 ?_
    · repeat' (first | exact V.subL.nil | apply V.subL.cons | exact V.sub.refl _ | exact V.sub.nil _ | apply V.sub.agg)
    simp -dsimp [↓callb_fn, List.getElem?_append, List.set_append, hL, q5, q6, q9, q10, q11, q12, q13, q15, he, twoM, Var.cells, Term.cells]
    refine sub_use ?_ c5 ?_
    · repeat' (first | exact V.subL.nil | apply V.subL.cons | exact V.sub.refl _ | exact V.sub.nil _ | apply V.sub.agg)
    simp -dsimp [↓callb_fn, List.getElem?_append, List.set_append, hL, q5, q6, q9, q10, q11, q12, q13, q15, he, twoM, Var.cells, Term.cells]
    refine sub_use ?_ c6 ?_
    · repeat' (first | exact V.subL.nil | apply V.subL.cons | exact V.sub.refl _ | exact V.sub.nil _ | apply V.sub.agg)
    simp -dsimp [↓callb_fn, List.getElem?_append, List.set_append, hL, q5, q6, q9, q10, q11, q12, q13, q15, he, twoM, Var.cells, Term.cells]
    refine sub_use ?_ c7 ?_
    · repeat' (first | exact V.subL.nil | apply V.subL.cons | exact V.sub.refl _ | exact V.sub.nil _ | apply V.sub.agg)
    simp -dsimp [↓callb_fn, List.getElem?_append, List.set_append, hL, q5, q6, q9, q10, q11, q12, q13, q15, he, twoM, Var.cells, Term.cells]
  rintro s7 ⟨q9, R, O, os, he⟩
  exact known_last s s7 hL q9 ⟨R, O, os, he⟩
end Go.Abs.G

namespace Go.Abs.G
open Go.Proofs
set_option linter.unusedVariables false

abbrev cnt (left : Int) : O := .mem false [] [[.int .i64 left]]
/-- What may be left. -/
def okLeft (left : Int) : Prop := -9223372036854775808 < left ∧ left ≤ 20000
def addL (left n : Int) : Int := if 0 ≤ left then left - n else left

theorem addL_ok {left n : Int} (h : okLeft left) (h0 : 0 ≤ n) (h1 : n ≤ 9223372036854775807) : okLeft (addL left n) := by
  unfold okLeft addL at *
  split <;> omega

theorem add_spec (left n : Int) (h : okLeft left) (h0 : 0 ≤ n) (h1 : n ≤ 9223372036854775807) :
    DC Try.prog hallmarkroom_Count_Add.id [.ptr 0 1 0 0, V.i n] [cnt left] (fun r H => r = .bool (decide (0 ≤ addL left n)) ∧ H = [cnt (addL left n)]) := by
  refine DC.of hallmarkroom_Count_Add.ok (by simp) ?_
  unfold okLeft at h
  have hw : 0 ≤ left → IntKind.i64.wrap (left - n) = left - n := fun _ => wrap64 (by omega) (by omega)
  simp [hallmarkroom_Count_Add.ir, hallmarkroom_Count_Add.rs]
  unfold addL
  split <;> simp_all <;> omega

theorem ok_spec (left : Int) : DC Try.prog hallmarkroom_Count_Ok.id [.ptr 0 1 0 0] [cnt left] (fun r H => r = .bool (decide (0 ≤ left)) ∧ H = [cnt left]) := by
  refine DC.of hallmarkroom_Count_Ok.ok (by simp) ?_
  simp [hallmarkroom_Count_Ok.ir, hallmarkroom_Count_Ok.rs]

theorem many_spec (n : Int) : DC Try.prog hallmarkroom_Many.id [V.i n] [] (fun r H => r = .ptr 0 1 0 0 ∧ H = [cnt n]) := by
  refine DC.of hallmarkroom_Many.ok (by simp) ?_
  simp [hallmarkroom_Many.ir, hallmarkroom_Many.rs]

theorem text_spec (left : Int) (s : ByteArray) (h : okLeft left) (hs : s.size ≤ maxLen) :
    DC Try.prog hallmarkroom_Count_Text.id [.ptr 0 1 0 0, .str s] [cnt left] (fun r H => H = [cnt (addL (addL left 1) s.size)]) := by
  have hm : (maxLen : Int) ≤ 9223372036854775807 := by decide
  refine DC.of hallmarkroom_Count_Text.ok (by simp) ?_
  simp [hallmarkroom_Count_Text.ir, hallmarkroom_Count_Text.rs]
  refine DC.mono (add_spec left 1 h (by decide) (by decide)) fun r H' ⟨_, hH⟩ => ?_
  subst hH
  simp
  refine DC.mono (add_spec _ s.size (addL_ok h (by decide) (by decide)) (by omega) (by omega)) fun r H' ⟨_, hH⟩ => ?_
  subst hH
  simp

theorem lists_spec (left : Int) (l : List (List Int)) (h : okLeft left) (hl : l.length ≤ maxLen) (hr : ∀ r ∈ l, r.length ≤ maxLen) :
    DC Try.prog hallmarkroom_Count_Lists.id [.ptr 0 1 0 0, vIntss l] [cnt left] (fun r H => ∃ left', okLeft left' ∧ H = [cnt left']) := by
  have hm : (maxLen : Int) ≤ 9223372036854775807 := by decide
  refine DC.of hallmarkroom_Count_Lists.ok (by simp) ?_
  simp [hallmarkroom_Count_Lists.ir, hallmarkroom_Count_Lists.rs, vIntss]
  refine WI.loop 1 (by simp) (fun s => ∃ i left', i ≤ l.length ∧ okLeft left' ∧ gt s.sl 0 = .ptr 0 1 0 0 ∧ gt s.sl 1 = vIntss l ∧ gt s.sl 4 = V.i i ∧ s.hp = [cnt left']) (fun s => (l.length - (gt s.sl 4).num).toNat) ?_ ?_
  · exact ⟨0, left, by simp [vIntss, h]⟩
  · rintro ⟨sl, hp, bs⟩ ⟨i, left', hi, h', g0, g1, g4, rfl⟩
    by_cases hil : i < l.length
    · simp [hallmarkroom_Count_Lists.b0, g0, g1, g4, vIntss, hil]
      refine DC.mono (ok_spec left') fun r H' ⟨hr', hH⟩ => ?_
      subst hr' hH
      by_cases h0 : 0 ≤ left'
      · simp [h0]
        refine DC.mono (add_spec left' 1 h' (by decide) (by decide)) fun r H' ⟨_, hH⟩ => ?_
        subst hH
        have hr2 := hr _ (List.getElem_mem hil)
        simp [vInts]
        refine DC.mono (add_spec _ (l[i].length) (addL_ok h' (by decide) (by decide)) (by omega) (by omega)) fun r H' ⟨_, hH⟩ => ?_
        subst hH
        have hw : IntKind.i64.wrap ((i : Int) + 1) = ((i + 1 : Nat) : Int) := by rw [wrap64] <;> omega
        simp [hw]
        exact ⟨⟨i + 1, by omega, addL_ok (addL_ok h' (by decide) (by decide)) (by omega) (by omega), by omega⟩, by omega⟩
      · simp [h0]
        exact h'
    · obtain rfl : i = l.length := by omega
      simp [hallmarkroom_Count_Lists.b0, g0, g1, g4, vIntss]
      exact h'

theorem cntCon_spec (left : Int) (c : Con) (h : okLeft left) (hc : okCon c) :
    DC Try.prog hallmarkroom_Count_Con.id [.ptr 0 1 0 0, .agg c.cells] [cnt left] (fun r H => ∃ left' o, okLeft left' ∧ H = [cnt left', o]) := by
  have hm : (maxLen : Int) ≤ 9223372036854775807 := by decide
  obtain ⟨_, _, ⟨h3, _⟩, _, _, _, _, ⟨h8, _⟩, ⟨h9, _⟩, h10, h11⟩ := hc
  refine DC.of hallmarkroom_Count_Con.ok (by simp) ?_
  simp [hallmarkroom_Count_Con.ir, hallmarkroom_Count_Con.rs, Con.cells, vTerms, vInts, vIntss]
  refine DC.mono (add_spec left 1 h (by decide) (by decide)) fun r H' ⟨_, hH⟩ => ?_
  subst hH
  have k1 := addL_ok h (n := 1) (by decide) (by decide)
  simp
  refine DC.mono (add_spec _ c.terms.length k1 (by omega) (by omega)) fun r H' ⟨_, hH⟩ => ?_
  subst hH
  have k2 := addL_ok k1 (n := c.terms.length) (by omega) (by omega)
  simp
  refine DC.mono (add_spec _ c.xs.length k2 (by omega) (by omega)) fun r H' ⟨_, hH⟩ => ?_
  subst hH
  have k3 := addL_ok k2 (n := c.xs.length) (by omega) (by omega)
  simp
  refine DC.mono (add_spec _ c.table.length k3 (by omega) (by omega)) fun r H' ⟨_, hH⟩ => ?_
  subst hH
  have k4 := addL_ok k3 (n := c.table.length) (by omega) (by omega)
  simp
  refine DC.mono (lists_spec _ c.rows k4 h10 fun r hr => (h11 r hr).1) fun r H' ⟨left', ho, hH⟩ => ?_
  subst hH
  simp
  exact ho

theorem cntModel_spec (left : Int) (m : Model) (h : okLeft left) (hm' : okModel m) :
    DC Try.prog hallmarkroom_Count_Model.id [.ptr 0 1 0 0, .agg m.cells] [cnt left] (fun r H => ∃ left' o, okLeft left' ∧ H = [cnt left', o]) := by
  have hm : (maxLen : Int) ≤ 9223372036854775807 := by decide
  obtain ⟨⟨hv, hv'⟩, ⟨hc, hc'⟩, hg, _⟩ := hm'
  refine DC.of hallmarkroom_Count_Model.ok (by simp) ?_
  simp [hallmarkroom_Count_Model.ir, hallmarkroom_Count_Model.rs, Model.cells, vVars, vCons, vTerms]
  refine WI.mono (Q := fun e s => e = .exit 0 ∧ ∃ left', okLeft left' ∧ gt s.sl 0 = .ptr 0 1 0 0 ∧ gt s.sl 3 = .ptr 1 1 0 0 ∧ s.hp = [cnt left', .mem false [] [m.cells]]) (WI.loop 2 (by simp) (fun s => ∃ i left', i ≤ m.vars.length ∧ okLeft left' ∧ gt s.sl 0 = .ptr 0 1 0 0 ∧ gt s.sl 3 = .ptr 1 1 0 0 ∧ gt s.sl 4 = V.i i ∧ s.hp = [cnt left', .mem false [] [m.cells]]) (fun s => (m.vars.length - (gt s.sl 4).num).toNat) ?_ ?_) ?_
  · exact ⟨0, left, by simp [Model.cells, vVars, vCons, vTerms, h]⟩
  · rintro ⟨sl, hp, bs⟩ ⟨i, left', hi, h', g0, g3, g4, rfl⟩
    by_cases hil : i < m.vars.length
    · simp [hallmarkroom_Count_Model.b0, g0, g3, g4, Model.cells, vVars, vCons, vTerms, hil]
      refine DC.mono (ok_spec left') fun r H' ⟨hr', hH⟩ => ?_
      subst hr' hH
      by_cases h0 : 0 ≤ left'
      · have hr2 := (hv' _ (List.getElem_mem hil)).1
        simp [h0, hil, Var.cells]
        refine DC.mono (text_spec left' _ h' hr2) fun r H' hH => ?_
        subst hH
        have hw : IntKind.i64.wrap ((i : Int) + 1) = ((i + 1 : Nat) : Int) := by rw [wrap64] <;> omega
        simp [hw]
        exact ⟨⟨i + 1, by omega, addL_ok (addL_ok h' (by decide) (by decide)) (by omega) (by omega), by omega⟩, by omega⟩
      · simp [h0]
        exact h'
    · obtain rfl : i = m.vars.length := by omega
      simp [hallmarkroom_Count_Model.b0, g0, g3, g4, Model.cells, vVars, vCons, vTerms]
      exact h'
  · rintro e ⟨sl, hp, bs⟩ ⟨rfl, left', h', g0, g3, rfl⟩
    simp [g0, g3]
    refine WI.mono (Q := fun e s => e = .exit 2 ∧ ∃ left', okLeft left' ∧ gt s.sl 0 = .ptr 0 1 0 0 ∧ gt s.sl 3 = .ptr 1 1 0 0 ∧ s.hp = [cnt left', .mem false [] [m.cells]]) (WI.loop 2 (by simp) (fun s => ∃ i left', i ≤ m.cons.length ∧ okLeft left' ∧ gt s.sl 0 = .ptr 0 1 0 0 ∧ gt s.sl 3 = .ptr 1 1 0 0 ∧ gt s.sl 5 = V.i i ∧ s.hp = [cnt left', .mem false [] [m.cells]]) (fun s => (m.cons.length - (gt s.sl 5).num).toNat) ?_ ?_) ?_
    · exact ⟨0, left', by simp [g0, g3, h']⟩
    · clear g0 g3 h' left'
      rintro ⟨sl, hp, bs⟩ ⟨i, left', hi, h', g0, g3, g4, rfl⟩
      by_cases hil : i < m.cons.length
      · simp [hallmarkroom_Count_Model.b1, g0, g3, g4, Model.cells, vVars, vCons, vTerms, hil]
        refine DC.mono (ok_spec left') fun r H' ⟨hr', hH⟩ => ?_
        subst hr' hH
        by_cases h0 : 0 ≤ left'
        · simp [h0, hil, Con.cells, vTerms, vInts, vIntss]
          refine DC.mono (cntCon_spec left' _ h' (hc' _ (List.getElem_mem hil))) fun r H' ⟨left2, o, h2, hH⟩ => ?_
          subst hH
          have hw : IntKind.i64.wrap ((i : Int) + 1) = ((i + 1 : Nat) : Int) := by rw [wrap64] <;> omega
          simp [hw]
          exact ⟨⟨i + 1, by omega, h2, by omega⟩, by omega⟩
        · simp [h0]
          exact h'
      · obtain rfl : i = m.cons.length := by omega
        simp [hallmarkroom_Count_Model.b1, g0, g3, g4, Model.cells, vVars, vCons, vTerms]
        exact h'
    · clear g0 g3 h' left'
      rintro e ⟨sl, hp, bs⟩ ⟨rfl, left', h', g0, g3, rfl⟩
      simp [g0, g3, Model.cells, vVars, vCons, vTerms]
      refine DC.mono (add_spec _ m.goal.length h' (by omega) (by omega)) fun r H' ⟨_, hH⟩ => ?_
      subst hH
      simp
      exact addL_ok h' (by omega) (by omega)

theorem few_spec (m : Model) (values : List Int) (hm' : okModel m) (hv : values.length ≤ maxLen) :
    DP Try.prog hallmarklaw4_few.id [.agg m.cells, vInts values] (fun r => ∃ b, r = .bool b) := by
  have hm : (maxLen : Int) ≤ 9223372036854775807 := by decide
  refine DC.of hallmarklaw4_few.ok (by simp) ?_
  simp [hallmarklaw4_few.ir, hallmarklaw4_few.rs, Model.cells, vVars, vCons, vTerms, vInts]
  refine DC.mono (many_spec 20000) fun r H' ⟨hr', hH⟩ => ?_
  subst hr' hH
  simp
  refine DC.mono (cntModel_spec 20000 m (by constructor <;> decide) hm') fun r H' ⟨left', o, h', hH⟩ => ?_
  subst hH
  simp
  refine DC.mono (add_spec left' values.length h' (by omega) (by omega)) fun r H' ⟨_, hH⟩ => ?_
  subst hH
  simp
  refine DC.mono (ok_spec _) fun r H' ⟨hr', hH⟩ => ?_
  subst hr' hH
  simp
  omega
end Go.Abs.G

/- ModelOwn: plain laws. -/
namespace Go.Abs

def namesB (c : Con) (x : Int) : Bool := decide (c.x = x) || decide (c.y = x) || c.terms.any (fun t => decide (t.x = x)) || c.xs.any fun y => decide (y = x)

theorem names_term {c : Con} {t : Term} (h : t ∈ c.terms) : namesB c t.x = true := by
  unfold namesB
  have : c.terms.any (fun u => decide (u.x = t.x)) = true := List.any_eq_true.2 ⟨t, h, by simp⟩
  simp [this]
theorem names_xs {c : Con} {x : Int} (h : x ∈ c.xs) : namesB c x = true := by
  unfold namesB
  have : c.xs.any (fun y => decide (y = x)) = true := List.any_eq_true.2 ⟨x, h, by simp⟩
  simp [this]
theorem names_x (c : Con) : namesB c c.x = true := by simp [namesB]
theorem names_y (c : Con) : namesB c c.y = true := by simp [namesB]

theorem sumI_congr {g g' : Int → Int} {l : List Term} (h : ∀ t ∈ l, g t.x = g' t.x) : sumI g l = sumI g' l := by
  unfold sumI
  congr 1
  exact List.map_congr_left fun t ht => by rw [h t ht]

theorem holdsK_congr {c : Con} {n : Nat} (hc : conB c n = 0) {g g' : Int → Int} (h : ∀ x : Int, 0 ≤ x → x < n → namesB c x = true → g x = g' x) : holdsK c g = holdsK c g' := by
  unfold conB at hc
  split at hc
  · cases hc
  · next nd hn =>
    have ok := ConOk.of hc
    have ht : sumI g c.terms = sumI g' c.terms := sumI_congr fun t ht => h _ (ok.terms t ht).x.1 (ok.terms t ht).x.2 (names_term ht)
    have hxs : c.xs.map g = c.xs.map g' := List.map_congr_left fun x hx => h x (ok.xs x hx).1 (ok.xs x hx).2 (names_xs hx)
    have hf : c.xs.filter (fun x => decide (g x = c.v)) = c.xs.filter fun x => decide (g' x = c.v) := List.filter_congr fun x hx => by rw [h x (ok.xs x hx).1 (ok.xs x hx).2 (names_xs hx)]
    have hx : nd.x = true → g c.x = g' c.x := fun e => h _ (ok.x e).1 (ok.x e).2 (names_x c)
    have hy : nd.y = true → g c.y = g' c.y := fun e => h _ (ok.y e).1 (ok.y e).2 (names_y c)
    unfold needs at hn
    unfold holdsK
    rw [ht, hxs, hf]
    repeat' split
    all_goals first
      | rfl
      | (simp_all; done)
      | (simp only [*, if_true, if_false, Option.some.injEq, Int.reduceEq] at hn; subst hn; simp only [forall_const] at hx hy; simp only [hx, hy])

/-- Other values in the places of which nothing is said. -/
def mixAt (c : Con) (values other : List Int) (i : Nat) : Int :=
  if namesB c i || decide (other.length ≤ i) || decide (other.getD i 0 < -1000000000) || decide (1000000000 < other.getD i 0) then values.getD i 0 else other.getD i 0
def mixL (c : Con) (values other : List Int) : List Int := (List.range values.length).map (mixAt c values other)

theorem greatB_iff {l : List Int} : greatB l = false ↔ ∀ x ∈ l, -1000000000 ≤ x ∧ x ≤ 1000000000 := by
  simp [greatB, withinB]

theorem holds_mixed {c : Con} {values other : List Int} (h : holdsB c values = true) : holdsB c (mixL c values other) = true := by
  unfold holdsB at h
  split at h
  · cases h
  · next hn =>
    simp only [Bool.or_eq_true, decide_eq_true_eq, not_or, Decidable.not_not, Bool.not_eq_true] at hn
    obtain ⟨h1, h2⟩ := hn
    have hl : (mixL c values other).length = values.length := by simp [mixL]
    have hg : greatB (mixL c values other) = false := by
      rw [greatB_iff] at h2 ⊢
      intro x hx
      simp only [mixL, List.mem_map, List.mem_range] at hx
      obtain ⟨i, hi, rfl⟩ := hx
      unfold mixAt
      split
      · have : values.getD i 0 ∈ values := by simp [List.getD, List.getElem?_eq_getElem hi]
        exact h2 _ this
      · next hn =>
        simp only [Bool.or_eq_true, decide_eq_true_eq, not_or] at hn
        omega
    unfold holdsB
    rw [hl, h1, hg]
    simp only [ne_eq, not_true, decide_false, Bool.false_or, Bool.false_eq_true, if_false]
    rw [← h]
    refine (holdsK_congr h1 fun x h0 hx hname => ?_).symm
    have hi : x.toNat < values.length := by omega
    have hxx : ((x.toNat : Nat) : Int) = x := by omega
    simp only [atI, mixL, List.getD, List.getElem?_map, List.getElem?_range hi, Option.map_some, Option.getD_some, mixAt]
    rw [hxx, hname]
    simp

/-! Rows of a Table. -/

def mayB (c : Con) (n : Nat) : Bool := decide (1 ≤ n) && decide (n ≤ 32) && decide (conB c n = 0)

theorem conB_rows {c : Con} {n : Int} {rows : List (List Int)} (hk : c.kind = 8) (h1 : c.rows ≠ []) (h2 : rows ≠ []) (h3 : ∀ r, r ∈ rows ↔ r ∈ c.rows) (h4 : rows.length ≤ 64 ↔ c.rows.length ≤ 64) : conB { c with rows := rows } n = 0 ↔ conB c n = 0 := by
  have hany : ∀ p : List Int → Bool, rows.any p = c.rows.any p := by
    intro p
    rw [Bool.eq_iff_iff, List.any_eq_true, List.any_eq_true]
    exact ⟨fun ⟨r, hr, hp⟩ => ⟨r, (h3 r).1 hr, hp⟩, fun ⟨r, hr, hp⟩ => ⟨r, (h3 r).2 hr, hp⟩⟩
  have l1 : 1 ≤ c.rows.length := List.length_pos_iff.2 h1
  have l2 : 1 ≤ rows.length := List.length_pos_iff.2 h2
  have hcnt : countsB true rows.length = countsB true c.rows.length := by
    simp [countsB, l1, l2, h4]
  simp only [conB, hk, needs]
  simp only [Int.reduceEq, if_false, if_true]
  simp [conN, fieldB, wideB, hany, hcnt]

theorem holdsB_rows {c : Con} {values : List Int} {rows : List (List Int)} (hk : c.kind = 8) (h1 : c.rows ≠ []) (h2 : rows ≠ []) (h3 : ∀ r, r ∈ rows ↔ r ∈ c.rows) (h4 : rows.length ≤ 64 ↔ c.rows.length ≤ 64) : holdsB { c with rows := rows } values = holdsB c values := by
  have hc := conB_rows (n := values.length) hk h1 h2 h3 h4
  have hK : holdsK { c with rows := rows } (atI values) = holdsK c (atI values) := by
    simp only [holdsK, hk]
    simp only [Int.reduceEq, if_false, if_true]
    rw [Bool.eq_iff_iff, List.any_eq_true, List.any_eq_true]
    exact ⟨fun ⟨r, hr, hp⟩ => ⟨r, (h3 r).1 hr, hp⟩, fun ⟨r, hr, hp⟩ => ⟨r, (h3 r).2 hr, hp⟩⟩
  unfold holdsB
  rw [hK]
  by_cases h : conB c values.length = 0
  · simp [h, hc.2 h]
  · have hn : ¬ conB { c with rows := rows } values.length = 0 := fun e => h (hc.1 e)
    simp [h, hn]

theorem holds_con {c : Con} {values : List Int} (h : holdsB c values = true) : conB c values.length = 0 ∧ greatB values = false ∧ holdsK c (atI values) = true := by
  unfold holdsB at h
  split at h
  · cases h
  · next hn =>
    simp only [Bool.or_eq_true, decide_eq_true_eq, not_or, Decidable.not_not, Bool.not_eq_true] at hn
    exact ⟨hn.1, hn.2, h⟩

theorem conB_table {c : Con} {n : Nat} (hk : c.kind = 8) (h : conB c n = 0) : 1 ≤ n ∧ c.rows.length ≤ 64 := by
  unfold conB at h
  split at h
  · cases h
  · next nd hn =>
    have ok := ConOk.of h
    simp only [needs, hk] at hn
    simp only [Int.reduceEq, if_false, if_true, Option.some.injEq] at hn
    have h1 := ok.xs1 (by rw [← hn])
    obtain ⟨x, l, hx⟩ := List.length_pos_iff_exists_cons.1 h1
    have := ok.xs x (by simp [hx])
    exact ⟨by omega, ok.rowsN⟩

theorem table_may {c : Con} {values : List Int} (hk : c.kind = 8) (hm : mayB c values.length = false) : (!holdsB c values || decide (32 < values.length)) = true := by
  cases hh : holdsB c values
  · rfl
  · obtain ⟨h1, _, _⟩ := holds_con hh
    have := (conB_table hk h1).1
    unfold mayB at hm
    simp [h1] at hm
    simp
    omega

theorem table_less {c : Con} {values : List Int} {rows : List (List Int)} (hk : c.kind = 8) (hc : conB c values.length = 0) (h3 : ∀ r ∈ rows, r ∈ c.rows) (h : holdsB c values = false) : holdsB { c with rows := rows } values = false := by
  cases hh : holdsB { c with rows := rows } values
  · rfl
  · obtain ⟨h1, h2, h4⟩ := holds_con hh
    simp only [holdsB, hc, h2] at h
    simp only [holdsK, hk] at h h4
    simp at h h4
    exact absurd rfl (h _ (h3 _ h4))

/-! Counts. -/

theorem conB_count {c d : Con} {n : Int} (hk : c.kind = 9) (hd : d.kind = 9) (h1 : d.terms = c.terms) (h2 : d.v = c.v) (h3 : d.x = c.x) (h4 : d.y = c.y) (h5 : d.xs = c.xs) (h6 : d.table = c.table) (h7 : d.rows = c.rows)
    (ho : (1 ≤ d.op ∧ d.op ≤ 3) ↔ (1 ≤ c.op ∧ c.op ≤ 3)) (hkk : withinB d.k 1000000000 = withinB c.k 1000000000 ∨ conB c n ≠ 0) : conB c n = 0 → conB d n = 0 := by
  intro hc
  have hkk : withinB d.k 1000000000 = withinB c.k 1000000000 := hkk.resolve_right fun h => h hc
  have hop : (decide (d.op < 1) || decide (3 < d.op)) = (decide (c.op < 1) || decide (3 < c.op)) := by
    rw [Bool.eq_iff_iff]
    simp only [Bool.or_eq_true, decide_eq_true_eq]
    omega
  revert hc
  simp only [conB, hk, hd, needs]
  simp only [Int.reduceEq, if_false, if_true]
  simp only [conN, fieldB, wideB, h1, h2, h3, h4, h5, h6, h7, hkk, hop]
  simp

theorem holds_count {c : Con} {values : List Int} (hk : c.kind = 9) : holdsK c (atI values) = opB c.op ((c.xs.filter fun x => decide (atI values x = c.v)).length) c.k := by
  simp only [holdsK, hk]
  simp

theorem withinB_iff {n m : Int} : withinB n m = true ↔ -m ≤ n ∧ n ≤ m := by simp [withinB]

theorem count_eq {c : Con} {values : List Int} (hk : c.kind = 9) : holdsB { c with op := 2 } values = (holdsB { c with op := 1 } values && holdsB { c with op := 3 } values) := by
  have e : ∀ a b : Int, 1 ≤ a → a ≤ 3 → 1 ≤ b → b ≤ 3 → conB { c with op := a } values.length = 0 → conB { c with op := b } values.length = 0 := fun a b _ _ _ _ h =>
    conB_count (c := { c with op := a }) (d := { c with op := b }) hk hk rfl rfl rfl rfl rfl rfl rfl (by simp; omega) (.inl rfl) h
  by_cases h : conB { c with op := 2 } values.length = 0
  · have h1 := e 2 1 (by decide) (by decide) (by decide) (by decide) h
    have h3 := e 2 3 (by decide) (by decide) (by decide) (by decide) h
    unfold holdsB
    rw [holds_count (c := { c with op := 2 }) hk, holds_count (c := { c with op := 1 }) hk, holds_count (c := { c with op := 3 }) hk]
    simp only [h, h1, h3, opB]
    cases greatB values
    · simp
      rw [Bool.eq_iff_iff]
      simp only [Bool.and_eq_true, decide_eq_true_eq]
      omega
    · simp
  · have h1 : conB { c with op := 1 } values.length ≠ 0 := fun h' => h (e 1 2 (by decide) (by decide) (by decide) (by decide) h')
    simp [holdsB, h, h1]

theorem count_all {c : Con} {values : List Int} (hk : c.kind = 9) (hkk : -1000000000 ≤ c.k ∧ c.k ≤ 1000000000) :
    holdsB { c with op := 1, k := c.xs.length } values = (holdsB { c with op := 1 } values || holdsB { c with op := 3 } values) := by
  by_cases h : conB { c with op := 1 } values.length = 0
  · have hx : c.xs.length ≤ 64 := by
      have h' := h
      unfold conB at h'
      split at h'
      · cases h'
      · exact (ConOk.of h').xsN
    have h1 : conB { c with op := 1, k := (c.xs.length : Int) } values.length = 0 := conB_count (c := { c with op := 1 }) (d := { c with op := 1, k := (c.xs.length : Int) }) hk hk rfl rfl rfl rfl rfl rfl rfl (by simp)
      (.inl (by rw [withinB_iff.2 (show -1000000000 ≤ (c.xs.length : Int) ∧ (c.xs.length : Int) ≤ 1000000000 by omega), withinB_iff.2 hkk])) h
    have h3 : conB { c with op := 3 } values.length = 0 := conB_count (c := { c with op := 1 }) (d := { c with op := 3 }) hk hk rfl rfl rfl rfl rfl rfl rfl (by simp) (.inl rfl) h
    unfold holdsB
    rw [holds_count (c := { c with op := 1, k := (c.xs.length : Int) }) hk, holds_count (c := { c with op := 1 }) hk, holds_count (c := { c with op := 3 }) hk]
    simp only [h, h1, h3, opB]
    cases greatB values
    · have := List.length_filter_le (fun x => decide (atI values x = c.v)) c.xs
      simp
      rw [Bool.eq_iff_iff]
      simp only [Bool.or_eq_true, decide_eq_true_eq]
      omega
    · simp
  · have h3 : conB { c with op := 3 } values.length ≠ 0 := fun h' => h (conB_count (c := { c with op := 3 }) (d := { c with op := 1 }) hk hk rfl rfl rfl rfl rfl rfl rfl (by simp) (.inl rfl) h')
    have h1 : conB { c with op := 1, k := (c.xs.length : Int) } values.length ≠ 0 := fun h' => by
      have hx : c.xs.length ≤ 64 := by
        have h'' := h'
        unfold conB at h''
        split at h''
        · cases h''
        · exact (ConOk.of h'').xsN
      exact h (conB_count (c := { c with op := 1, k := (c.xs.length : Int) }) (d := { c with op := 1 }) hk hk rfl rfl rfl rfl rfl rfl rfl (by simp)
        (.inl (by rw [withinB_iff.2 hkk, withinB_iff.2 (show -1000000000 ≤ (c.xs.length : Int) ∧ (c.xs.length : Int) ≤ 1000000000 by omega)])) h')
    simp [holdsB, h, h1, h3]

/-! Sums. -/

def linOf (op : Int) (k : Int) (terms : List Term) : Con := ⟨1, op, terms, k, 0, 0, 0, [], [], []⟩

theorem conB_lin {op k : Int} {terms : List Term} {n : Int} : conB (linOf op k terms) n = 0 ↔ (1 ≤ op ∧ op ≤ 3) ∧ 1 ≤ terms.length ∧ terms.length ≤ 64 ∧ (∀ t ∈ terms, 0 ≤ t.x ∧ t.x < n) ∧ (∀ t ∈ terms, t.c ≠ 0 ∧ -1000000 ≤ t.c ∧ t.c ≤ 1000000) ∧ -1000000000 ≤ k ∧ k ≤ 1000000000 := by
  simp only [linOf, conB, needs]
  simp only [Int.reduceEq, if_false, if_true]
  simp only [conN, fieldB, wideB, countsB, badVarB, badCoefB, greatB]
  simp [withinB]
  constructor
  · intro h
    split at h
    · cases h
    · split at h
      · cases h
      · split at h
        · cases h
        · split at h
          · cases h
          · split at h
            · cases h
            · next h1 h2 h3 h4 h5 =>
              have h3 : ∀ t ∈ terms, 0 ≤ t.x ∧ t.x < n := fun t ht => by
                refine Classical.byContradiction fun hn => h3 ⟨t, ht, ?_⟩
                omega
              have h4 : ∀ t ∈ terms, t.c ≠ 0 ∧ -1000000 ≤ t.c ∧ t.c ≤ 1000000 := fun t ht => by
                refine Classical.byContradiction fun hn => h4 ⟨t, ht, ?_⟩
                omega
              have h2' : 1 ≤ terms.length := List.length_pos_iff.2 fun e => h2 (.inl e)
              have h2'' : terms.length ≤ 64 := Nat.not_lt.1 fun e => h2 (.inr e)
              exact ⟨by omega, h2', h2'', h3, h4, by omega⟩
  · rintro ⟨h1, h2, h3, h4, h5, h6⟩
    rw [if_neg (by omega), if_neg (by rintro (rfl | h); simp at h2; omega), if_neg, if_neg, if_neg (by omega)]
    · rintro ⟨t, ht, h⟩
      have := h5 t ht
      omega
    · rintro ⟨t, ht, h⟩
      have := h4 t ht
      omega

theorem holds_lin {op k : Int} {terms : List Term} {values : List Int} : holdsB (linOf op k terms) values = (decide (conB (linOf op k terms) values.length = 0) && !greatB values && opB op (sumI (atI values) terms) k) := by
  unfold holdsB
  have : holdsK (linOf op k terms) (atI values) = opB op (sumI (atI values) terms) k := by simp [holdsK, linOf]
  rw [this]
  by_cases h : conB (linOf op k terms) values.length = 0 <;> cases hg : greatB values <;> simp [h]

theorem lin_eq {k : Int} {terms : List Term} {values : List Int} : holdsB (linOf 2 k terms) values = (holdsB (linOf 1 k terms) values && holdsB (linOf 3 k terms) values) := by
  rw [holds_lin, holds_lin, holds_lin]
  have e : ∀ a b : Int, 1 ≤ a → a ≤ 3 → 1 ≤ b → b ≤ 3 → (decide (conB (linOf a k terms) values.length = 0) = decide (conB (linOf b k terms) values.length = 0)) := fun a b h1 h2 h3 h4 => by
    rw [decide_eq_decide, conB_lin, conB_lin]
    simp [h1, h2, h3, h4]
  rw [e 2 1 (by decide) (by decide) (by decide) (by decide), e 3 1 (by decide) (by decide) (by decide) (by decide)]
  cases decide (conB (linOf 1 k terms) values.length = 0) <;> cases greatB values <;> simp [opB]
  rw [Bool.eq_iff_iff]
  simp only [Bool.and_eq_true, decide_eq_true_eq]
  omega

def neg64 (n : Int) : Int := if n = -9223372036854775808 then n else -n
def turn (t : Term) : Term := ⟨neg64 t.c, t.x⟩

theorem sum_turn {g : Int → Int} : ∀ {l : List Term}, (∀ t ∈ l, -1000000 ≤ t.c) → sumI g (l.map turn) = -sumI g l := by
  intro l
  induction l with
  | nil => intro _; simp [sumI]
  | cons t l ih =>
    intro h
    have h1 := h t (by simp)
    have h2 := ih fun u hu => h u (by simp [hu])
    simp only [sumI, List.map_cons, List.sum_cons] at h2 ⊢
    rw [h2]
    have : (turn t).c = -t.c := by simp only [turn, neg64]; rw [if_neg (by omega)]
    rw [this, Int.neg_mul]
    show -(t.c * g t.x) + _ = _
    omega

theorem lin_turn {k : Int} {terms : List Term} {values : List Int} : holdsB (linOf 3 (neg64 k) (terms.map turn)) values = holdsB (linOf 1 k terms) values := by
  rw [holds_lin, holds_lin]
  have hc : conB (linOf 3 (neg64 k) (terms.map turn)) values.length = 0 ↔ conB (linOf 1 k terms) values.length = 0 := by
    rw [conB_lin, conB_lin]
    have key : (-1000000000 ≤ neg64 k ∧ neg64 k ≤ 1000000000) ↔ (-1000000000 ≤ k ∧ k ≤ 1000000000) := by unfold neg64; split <;> omega
    have key2 : ∀ t : Term, ((turn t).c ≠ 0 ∧ -1000000 ≤ (turn t).c ∧ (turn t).c ≤ 1000000) ↔ (t.c ≠ 0 ∧ -1000000 ≤ t.c ∧ t.c ≤ 1000000) := fun t => by simp only [turn, neg64]; split <;> omega
    simp only [List.length_map, List.forall_mem_map, key, key2]
    simp [turn]
  by_cases h : conB (linOf 1 k terms) values.length = 0
  · have hl := conB_lin.1 h
    simp only [h, hc.2 h, opB]
    rw [sum_turn fun t ht => (hl.2.2.2.2.1 t ht).2.1]
    have : neg64 k = -k := by unfold neg64; rw [if_neg (by omega)]
    rw [this]
    simp
  · have hn : ¬ conB (linOf 3 (neg64 k) (terms.map turn)) values.length = 0 := fun e => h (hc.1 e)
    simp [h, hn]

theorem reif_says {c : Con} {values : List Int} (hk : c.kind = 7) (h : holdsB c values = true) : (decide (atI values c.x = 1) && holdsB (linOf 1 c.k c.terms) values || decide (atI values c.x = 0) && !holdsB (linOf 1 c.k c.terms) values) = true := by
  obtain ⟨h1, h2, h3⟩ := holds_con h
  have hc : conB (linOf 1 c.k c.terms) values.length = 0 := by
    unfold conB at h1
    split at h1
    · cases h1
    · next nd hn =>
      have ok := ConOk.of h1
      simp only [needs, hk] at hn
      simp only [Int.reduceEq, if_false, if_true, Option.some.injEq] at hn
      subst hn
      unfold conN at h1
      split at h1
      · cases h1
      · split at h1
        · cases h1
        · split at h1
          · cases h1
          · next hcnt =>
            rw [conB_lin]
            simp [countsB] at hcnt
            refine ⟨by omega, List.length_pos_iff.2 hcnt.1.1, ok.termsN, fun t ht => (ok.terms t ht).x, fun t ht => ?_, ok.k⟩
            have := (ok.terms t ht).c
            omega
  rw [holds_lin, hc, h2]
  simp only [holdsK, hk] at h3
  simp at h3
  simp [opB]
  split at h3
  · next hle => simp [hle, h3]
  · next hle => simp [h3]; omega
end Go.Abs

namespace Go.Abs.G
open Go.Proofs
set_option linter.unusedVariables false
set_option linter.unusedSimpArgs false

theorem any_take_succ' {α : Type} (p : α → Bool) {l : List α} {i : Nat} (h : i < l.length) : (l.take (i + 1)).any p = ((l.take i).any p || p l[i]) := by
  rw [List.take_succ_eq_append_getElem h, List.any_append]; simp

theorem names_spec (c : Con) (x : Int) (hc : okCon c) : Pf Try.prog hallmarklaw4_names.id [.agg c.cells, V.i x] (.bool (namesB c x)) := by
  have hm : (maxLen : Int) ≤ 9223372036854775807 := by decide
  obtain ⟨_, _, ⟨h3, _⟩, _, _, _, _, ⟨h8, _⟩, _, _, _⟩ := hc
  refine DC.of hallmarklaw4_names.ok (by simp) ?_
  unfold hallmarklaw4_names.ir
  refine vc_cut (fun s => gt s.sl 1 = V.i x ∧ gt s.sl 2 = .ptr 0 1 0 0 ∧ s.hp = [.mem false [] [c.cells]]) (by simp [Con.cells, vTerms, vInts, vIntss]) ?_
  rintro ⟨sl, hp, bs⟩ ⟨h1, h2, rfl⟩
  refine vc_cut (fun s => gt s.sl 1 = V.i x ∧ gt s.sl 2 = .ptr 0 1 0 0 ∧ gt s.sl 5 = .bool (decide (c.x = x) || decide (c.y = x)) ∧ s.hp = [.mem false [] [c.cells]]) ?_ ?_
  · by_cases hx : c.x = x <;> simp [h1, h2, hx, Con.cells, vTerms, vInts, vIntss]
    exact Bool.beq_eq_decide_eq _ _
  clear h1 h2
  rintro ⟨sl, hp, bs⟩ ⟨h1, h2, h5, rfl⟩
  obtain ⟨b, hb⟩ : ∃ b, (decide (c.x = x) || decide (c.y = x)) = b := ⟨_, rfl⟩
  have hN : namesB c x = (b || c.terms.any (fun t => decide (t.x = x)) || c.xs.any fun y => decide (y = x)) := by rw [← hb]; rfl
  rw [hb] at h5
  rw [hN]
  refine vc_cut (fun s => gt s.sl 1 = V.i x ∧ gt s.sl 2 = .ptr 0 1 0 0 ∧ gt s.sl 5 = .bool (b || c.terms.any (fun t => decide (t.x = x))) ∧ s.hp = [.mem false [] [c.cells]]) ?_ ?_
  · simp [h1, h2, h5]
    refine WI.mono (Q := fun e s => e = .exit 0 ∧ gt s.sl 1 = V.i x ∧ gt s.sl 2 = .ptr 0 1 0 0 ∧ gt s.sl 5 = .bool (b || c.terms.any (fun t => decide (t.x = x))) ∧ s.hp = [.mem false [] [c.cells]])
      (WI.loop 1 (by simp) (fun s => ∃ i, i ≤ c.terms.length ∧ gt s.sl 1 = V.i x ∧ gt s.sl 2 = .ptr 0 1 0 0 ∧ gt s.sl 5 = .bool (b || (c.terms.take i).any (fun t => decide (t.x = x))) ∧ gt s.sl 6 = V.i i ∧ s.hp = [.mem false [] [c.cells]]) (fun s => (c.terms.length - (gt s.sl 6).num).toNat) ?_ ?_) ?_
    · exact ⟨0, by simp [h1, h2, h5]⟩
    · clear h1 h2 h5
      rintro ⟨sl, hp, bs⟩ ⟨i, hi, h1, h2, h5, h6, rfl⟩
      by_cases hil : i < c.terms.length
      · have hw : IntKind.i64.wrap ((i : Int) + 1) = ((i + 1 : Nat) : Int) := by rw [wrap64] <;> omega
        have ht := any_take_succ' (fun t : Term => decide (t.x = x)) hil
        obtain ⟨a, ha⟩ : ∃ a, (b || (c.terms.take i).any (fun t => decide (t.x = x))) = a := ⟨_, rfl⟩
        rw [ha] at h5
        have hn : (b || (c.terms.take (i + 1)).any (fun t => decide (t.x = x))) = (a || decide (c.terms[i].x = x)) := by rw [ht, ← Bool.or_assoc, ha]
        cases a
        · simp [hallmarklaw4_names.b0, h1, h2, h5, h6, hil, hw, Con.cells, vTerms, vInts, vIntss, Term.cells]
          exact ⟨⟨i + 1, by omega, by rw [hn]; simp [Bool.beq_eq_decide_eq], by omega⟩, by omega⟩
        · simp [hallmarklaw4_names.b0, h1, h2, h5, h6, hil, hw, Con.cells, vTerms, vInts, vIntss, Term.cells]
          exact ⟨⟨i + 1, by omega, by simpa using hn, by omega⟩, by omega⟩
      · obtain rfl : i = c.terms.length := by omega
        simp [hallmarklaw4_names.b0, h1, h2, h5, h6, Con.cells, vTerms, vInts, vIntss]
    · rintro e ⟨sl, hp, bs⟩ ⟨rfl, h1, h2, h5, rfl⟩
      simp [h1, h2, h5]
  clear h1 h2 h5
  rintro ⟨sl, hp, bs⟩ ⟨h1, h2, h5, rfl⟩
  obtain ⟨b2, hb2⟩ : ∃ b2, (b || c.terms.any (fun t => decide (t.x = x))) = b2 := ⟨_, rfl⟩
  rw [hb2] at h5 ⊢
  refine vc_cut (fun s => gt s.sl 5 = .bool (b2 || c.xs.any fun y => decide (y = x))) ?_ ?_
  · simp [h1, h2, h5]
    refine WI.mono (Q := fun e s => e = .exit 2 ∧ gt s.sl 5 = .bool (b2 || c.xs.any fun y => decide (y = x)))
      (WI.loop 1 (by simp) (fun s => ∃ i, i ≤ c.xs.length ∧ gt s.sl 1 = V.i x ∧ gt s.sl 2 = .ptr 0 1 0 0 ∧ gt s.sl 5 = .bool (b2 || (c.xs.take i).any (fun t => decide (t = x))) ∧ gt s.sl 7 = V.i i ∧ s.hp = [.mem false [] [c.cells]]) (fun s => (c.xs.length - (gt s.sl 7).num).toNat) ?_ ?_) ?_
    · exact ⟨0, by simp [h1, h2, h5]⟩
    · clear h1 h2 h5
      rintro ⟨sl, hp, bs⟩ ⟨i, hi, h1, h2, h5, h6, rfl⟩
      by_cases hil : i < c.xs.length
      · have hw : IntKind.i64.wrap ((i : Int) + 1) = ((i + 1 : Nat) : Int) := by rw [wrap64] <;> omega
        have ht := any_take_succ' (fun t : Int => decide (t = x)) hil
        obtain ⟨a, ha⟩ : ∃ a, (b2 || (c.xs.take i).any (fun t => decide (t = x))) = a := ⟨_, rfl⟩
        rw [ha] at h5
        have hn : (b2 || (c.xs.take (i + 1)).any (fun t => decide (t = x))) = (a || decide (c.xs[i] = x)) := by rw [ht, ← Bool.or_assoc, ha]
        cases a
        · simp [hallmarklaw4_names.b1, h1, h2, h5, h6, hil, hw, Con.cells, vTerms, vInts, vIntss, Term.cells]
          exact ⟨⟨i + 1, by omega, by rw [hn]; simp [Bool.beq_eq_decide_eq], by omega⟩, by omega⟩
        · simp [hallmarklaw4_names.b1, h1, h2, h5, h6, hil, hw, Con.cells, vTerms, vInts, vIntss, Term.cells]
          exact ⟨⟨i + 1, by omega, by simpa using hn, by omega⟩, by omega⟩
      · obtain rfl : i = c.xs.length := by omega
        simp [hallmarklaw4_names.b1, h1, h2, h5, h6, Con.cells, vTerms, vInts, vIntss]
    · rintro e ⟨sl, hp, bs⟩ ⟨rfl, h5⟩
      simp [h5]
  rintro ⟨sl, hp, bs⟩ h5
  simp [h5, hallmarklaw4_names.rs]
end Go.Abs.G

namespace Go.Abs.G
open Go.Proofs
set_option linter.unusedVariables false
set_option linter.unusedSimpArgs false

theorem wrapu8 {n : Int} (h1 : 0 ≤ n) (h2 : n ≤ 255) : IntKind.u8.wrap n = n := by
  show (if (false && decide (n % 256 ≥ 128)) = true then n % 256 - 256 else n % 256) = n
  simp only [Bool.false_and, Bool.false_eq_true, if_false]
  omega

def nameI (i : Nat) : ByteArray := bytesOf [[.a (.int .u8 (97 + (i : Int) % 26))], [.a (.int .u8 (97 + (i : Int) / 26))]]
def varI (i : Nat) : Var := ⟨nameI i, 0, 0⟩
def mayM (c : Con) (n : Nat) : Model := ⟨(List.range n).map varI, [c], false, []⟩

theorem names_ok : ∀ i < 32, nameB (nameI i) = true ∧ ∀ j < i, nameI j ≠ nameI i := by decide +kernel

theorem may_right {c : Con} {n : Nat} (h1 : 1 ≤ n) (h2 : n ≤ 32) : rightB (mayM c n) = decide (conB c n = 0) := by
  rw [Bool.eq_iff_iff, right_iff, decide_eq_true_eq]
  have hl : (mayM c n).vars.length = n := by simp [mayM]
  constructor
  · intro h
    have := h.con c (by simp [mayM])
    rw [hl] at this
    exact this
  · intro h
    refine ⟨by rw [hl]; exact ⟨h1, h2⟩, by simp [mayM], fun i v hv => ?_, fun d hd => ?_, by simp [mayM, goalB, countsB, badVarB, badCoefB]⟩
    · have hi : i < n := by rw [← hl]; exact lt_of_get hv
      have hv' : v = varI i := by simp [mayM, hi] at hv; exact hv.symm
      subst hv'
      obtain ⟨k1, k2⟩ := names_ok i (by omega)
      have k3 : ((mayM c n).vars.take i).any (fun w => decide (w.name = (varI i).name)) = false := by
        rw [List.any_eq_false]
        intro w hw
        simp only [mayM, ← List.map_take, List.take_range, List.mem_map, List.mem_range] at hw
        obtain ⟨j, hj, rfl⟩ := hw
        have := k2 j (by omega)
        simp [varI, this]
      unfold varB
      rw [k3]
      simp [varI, k1, withinB]
    · have : d = c := by simpa [mayM] using hd
      subst this
      rw [hl]; exact h

theorem mayM_ok {c : Con} {n : Nat} (hc : okCon c) (h2 : n ≤ 32) : okModel (mayM c n) := by
  have h32 : 32 ≤ maxLen := by decide
  refine ⟨⟨by simp [mayM]; omega, fun v hv => ?_⟩, ⟨by simp [mayM]; omega, fun d hd => ?_⟩, by simp [mayM], by simp [mayM]⟩
  · simp only [mayM, List.mem_map, List.mem_range] at hv
    obtain ⟨j, hj, rfl⟩ := hv
    refine ⟨?_, by constructor <;> simp [varI], by constructor <;> simp [varI]⟩
    show (nameI j).size ≤ maxLen
    have : (nameI j).size = 2 := by simp [nameI, bytesOf, ByteArray.size]
    omega
  · have : d = c := by simpa [mayM] using hd
    subst this; exact hc

theorem may_spec (c : Con) (n : Nat) (hc : okCon c) (hn : n ≤ maxLen) : Pf Try.prog hallmarklaw4_may.id [.agg c.cells, V.i n] (.bool (mayB c n)) := by
  have hm : (maxLen : Int) ≤ 9223372036854775807 := by decide
  refine DC.of hallmarklaw4_may.ok (by simp) ?_
  unfold hallmarklaw4_may.ir
  refine vc_cut (fun s => gt s.sl 1 = V.i n ∧ gt s.sl 2 = .ptr 0 1 0 0 ∧ s.hp = [.mem false [] [c.cells]]) (by simp [Con.cells, vTerms, vInts, vIntss]) ?_
  rintro ⟨sl, hp, bs⟩ ⟨h1, h2, rfl⟩
  refine vc_cut (fun s => gt s.sl 1 = V.i n ∧ gt s.sl 2 = .ptr 0 1 0 0 ∧ s.hp = [.mem false [] [c.cells]] ∧ 1 ≤ n ∧ n ≤ 32) ?_ ?_
  · by_cases ha : 1 ≤ n
    · by_cases hb : n ≤ 32
      · have i1 : ¬ (n : Int) < 1 := by omega
        have i2 : ¬ 32 < (n : Int) := by omega
        simp [h1, h2, i1, i2, ha, hb]
      · have i1 : ¬ (n : Int) < 1 := by omega
        have i2 : 32 < (n : Int) := by omega
        have hB : mayB c n = false := by simp [mayB, hb]
        simp [h1, h2, i1, i2, hB, hallmarklaw4_may.rs]
    · have i1 : (n : Int) < 1 := by omega
      have hB : mayB c n = false := by simp [mayB, ha]
      simp [h1, h2, i1, hB, hallmarklaw4_may.rs]
  clear h1 h2
  rintro ⟨sl, hp, bs⟩ ⟨h1, h2, rfl, ha, hb⟩
  have hB : mayB c n = rightB (mayM c n) := by rw [may_right ha hb]; simp [mayB, ha, hb]
  rw [hB]
  refine vc_cut (fun s => gt s.sl 1 = V.i n ∧ gt s.sl 5 = .ptr 2 1 0 0 ∧ s.hp = [.mem false [] [c.cells], .res, .mem false [] [[.a (.slice none 0 0), vCons [c], .bool false, .a (.slice none 0 0)]]]) ?_ ?_
  · simp [h1, h2, Con.cells, vTerms, vInts, vIntss, vCons]
  clear h1 h2
  rintro ⟨sl, hp, bs⟩ ⟨h1, h5, rfl⟩
  have hH0 : ∀ (P : St → Prop), True := fun _ => trivial
  refine vc_cut (fun s => gt s.sl 5 = .ptr 2 1 0 0 ∧ s.hp = [.mem false [] [c.cells], .res, .mem false [5] [[.own 5 3 0 n n, vCons [c], .bool false, .a (.slice none 0 0)]], .res, .res, .mem false [] ((mayM c n).vars.map Var.cells)]) ?_ ?_
  · simp [h1, h5]
    refine WI.mono (Q := fun e s => e = .exit 0 ∧ gt s.sl 5 = .ptr 2 1 0 0 ∧ s.hp = [.mem false [] [c.cells], .res, .mem false [5] [[.own 5 3 0 n n, vCons [c], .bool false, .a (.slice none 0 0)]], .res, .res, .mem false [] ((mayM c n).vars.map Var.cells)])
      (WI.loop 6 (by simp) (fun s => ∃ i, i ≤ n ∧ gt s.sl 1 = V.i n ∧ gt s.sl 5 = .ptr 2 1 0 0 ∧ gt s.sl 6 = V.i i ∧
        ((i = 0 ∧ s.hp = [.mem false [] [c.cells], .res, .mem false [] [[.a (.slice none 0 0), vCons [c], .bool false, .a (.slice none 0 0)]]]) ∨
         (0 < i ∧ s.hp = [.mem false [] [c.cells], .res, .mem false [5] [[.own 5 3 0 i i, vCons [c], .bool false, .a (.slice none 0 0)]], .res, .res, .mem false [] ((mayM c i).vars.map Var.cells)]))) (fun s => (n - (gt s.sl 6).num).toNat) ?_ ?_) ?_
    · exact ⟨0, by omega, by simp [h1], by simp [h5], by simp, .inl ⟨rfl, rfl⟩⟩
    · clear h1 h5
      rintro s ⟨i, hi, h1, h5, h6, hcase⟩
      by_cases hil : i < n
      · have hw : IntKind.i64.wrap ((i : Int) + 1) = ((i + 1 : Nat) : Int) := by rw [wrap64] <;> omega
        have hq : (i : Int).tmod 26 = (i : Int) % 26 := Int.tmod_eq_emod_of_nonneg (by omega)
        have hd : (i : Int).tdiv 26 = (i : Int) / 26 := Int.tdiv_eq_ediv_of_nonneg (by omega)
        have w1 : IntKind.u8.wrap ((i : Int) % 26) = (i : Int) % 26 := wrapu8 (by omega) (by omega)
        have w2 : IntKind.u8.wrap (97 + (i : Int) % 26) = 97 + (i : Int) % 26 := wrapu8 (by omega) (by omega)
        have w3 : IntKind.u8.wrap ((i : Int) / 26) = (i : Int) / 26 := wrapu8 (by omega) (by omega)
        have w4 : IntKind.u8.wrap (97 + (i : Int) / 26) = 97 + (i : Int) / 26 := wrapu8 (by omega) (by omega)
        have w5 : IntKind.i64.wrap ((i : Int) / 26) = (i : Int) / 26 := by rw [wrap64] <;> omega
        have htk : (mayM c (i + 1)).vars.map Var.cells = (mayM c i).vars.map Var.cells ++ [(varI i).cells] := by
          simp [mayM, List.range_succ]
        have hl : ((mayM c i).vars.map Var.cells).length = i := by simp [mayM]
        obtain ⟨R, hR⟩ : ∃ R, (mayM c i).vars.map Var.cells = R := ⟨_, rfl⟩
        rw [hR] at htk hl hcase
        have hv : (varI i).cells = [.str (bytesOf [[.a (.int .u8 (97 + (i : Int) % 26))], [.a (.int .u8 (97 + (i : Int) / 26))]]), V.i 0, V.i 0] := rfl
        rw [hv] at htk
        rcases hcase with ⟨rfl, he⟩ | ⟨h0, he⟩
        · have hR0 : R = [] := List.length_eq_zero_iff.1 hl
          subst hR0
          have d1 : IntKind.i64.wrap 1 = 1 := by decide
          have d2 : IntKind.i64.wrap 0 = 0 := by decide
          have d3 : IntKind.u8.wrap 0 = 0 := by decide
          have d4 : IntKind.u8.wrap 97 = 97 := by decide
          simp -dsimp [hallmarklaw4_may.b0, h1, h5, h6, he, hil, hq, hd, d1, d2, d3, d4, V.isByte]
          refine ⟨⟨1, by omega, rfl, by omega, rfl, by rw [htk]; rfl⟩, by omega⟩
        · simp -dsimp [hallmarklaw4_may.b0, h1, h5, h6, he, hil, hq, hd, w1, w2, w3, w4, w5, hw, hl, V.isByte]
          refine ⟨by omega, ⟨i + 1, by omega, by omega, by omega, rfl, htk.symm⟩, by omega⟩
      · obtain rfl : i = n := by omega
        rcases hcase with ⟨h0, he⟩ | ⟨h0, he⟩
        · omega
        · simp [hallmarklaw4_may.b0, h1, h5, h6, he]
    · rintro e s ⟨rfl, h5, he⟩
      simp [h5, he]
  clear h1 h5
  rintro s ⟨h5, he⟩
  have hlv : (mayM c n).vars.length = n := by simp [mayM]
  have hok := mayM_ok (c := c) (n := n) hc hb
  have htk : List.take n (List.map Var.cells (mayM c n).vars) = List.map Var.cells (mayM c n).vars := List.take_of_length_le (by simp [hlv])
  simp -dsimp [↓callb_fn, h5, he, hlv, htk, Con.cells, vTerms, vInts, vIntss, vCons]
  refine sub_use (ys := [.agg (mayM c n).cells]) ?_ (check_spec (mayM c n) hok) ?_
  · refine V.subL.cons (V.sub.agg ?_) V.subL.nil
    exact V.subL.cons (V.sub.refl _) (V.subL.cons (V.sub.refl _) (V.subL.cons (V.sub.refl _) (V.subL.cons (V.sub.nil _) V.subL.nil)))
  have hr : rightB (mayM c n) = decide ((checkB (mayM c n)).2 = 0) := rfl
  rw [hr]
  simp -dsimp [h5, he, hallmarklaw4_may.rs]
  exact Bool.beq_eq_decide_eq _ _
end Go.Abs.G

namespace Go.Abs.G
open Go.Proofs
set_option linter.unusedVariables false
set_option linter.unusedSimpArgs false

theorem holds_dp (c : Con) (values : List Int) (hc : okCon c) (hv : values.length ≤ maxLen) {xs : List V} (hx : xs = [.agg c.cells, vInts values]) {Q : V → Prop} (hq : Q (.bool (holdsB c values))) : DP Try.prog model_Holds.id xs Q := by
  subst hx
  exact (holds_spec c values hc hv trivial).use hq

/-- A constraint's cells. -/
theorem con_cells (c : Con) : c.cells = [V.i c.kind, V.i c.op, vTerms c.terms, V.i c.k, V.i c.v, V.i c.x, V.i c.y, vInts c.xs, vInts c.table, vIntss c.rows] := rfl

abbrev clC (c : Con) (op k : Int) : List V := [V.i c.kind, V.i op, .view 2 (c.terms.map Term.cells), V.i k, V.i c.v, V.i c.x, V.i c.y, .view 1 (c.xs.map fun n => [V.i n]), .view 1 (c.table.map fun n => [V.i n]), .view 1 (c.rows.map fun r => [vInts r])]

theorem counts_spec2 (c : Con) (values : List Int) (hc : okCon c) (hv : values.length ≤ maxLen) (hk : c.kind = 9) : Pf Try.prog hallmarklaw4_counts.id [.agg c.cells, vInts values] (.bool true) := by
  have hm : (maxLen : Int) ≤ 9223372036854775807 := by decide
  have hcc := hc
  obtain ⟨k1, k2, k3, k4, k5, k6, k7, ⟨k8, k8'⟩, k9, k10, k11⟩ := hcc
  have o1 : okCon { c with op := 1 } := ⟨k1, by constructor <;> simp, k3, k4, k5, k6, k7, ⟨k8, k8'⟩, k9, k10, k11⟩
  have o2 : okCon { c with op := 2 } := ⟨k1, by constructor <;> simp, k3, k4, k5, k6, k7, ⟨k8, k8'⟩, k9, k10, k11⟩
  have o3 : okCon { c with op := 3 } := ⟨k1, by constructor <;> simp, k3, k4, k5, k6, k7, ⟨k8, k8'⟩, k9, k10, k11⟩
  have oa : okCon { c with op := 1, k := c.xs.length } := ⟨k1, by constructor <;> simp, k3, by constructor <;> simp <;> omega, k5, k6, k7, ⟨k8, k8'⟩, k9, k10, k11⟩
  have p1 := count_eq (c := c) (values := values) hk
  have p2 := count_all (c := c) (values := values) hk
  obtain ⟨b1, hb1⟩ : ∃ b, holdsB { c with op := 1 } values = b := ⟨_, rfl⟩
  obtain ⟨b2, hb2⟩ : ∃ b, holdsB { c with op := 2 } values = b := ⟨_, rfl⟩
  obtain ⟨b3, hb3⟩ : ∃ b, holdsB { c with op := 3 } values = b := ⟨_, rfl⟩
  obtain ⟨ba, hba⟩ : ∃ b, holdsB { c with op := 1, k := (c.xs.length : Int) } values = b := ⟨_, rfl⟩
  rw [hb1, hb2, hb3] at p1
  rw [hb1, hb3, hba] at p2
  refine DC.of hallmarklaw4_counts.ok (by simp) ?_
  unfold hallmarklaw4_counts.ir
  refine vc_cut (fun s => gt s.sl 1 = vInts values ∧ gt s.sl 2 = .ptr 0 1 0 0 ∧ s.hp = [.mem false [] [c.cells]]) (by simp [Con.cells, vTerms, vInts, vIntss]) ?_
  rintro ⟨sl, hp, bs⟩ ⟨h1, h2, rfl⟩
  refine vc_cut (fun s => gt s.sl 1 = vInts values ∧ gt s.sl 2 = .ptr 0 1 0 0 ∧ gt s.sl 5 = .ptr 1 1 0 0 ∧ gt s.sl 6 = .ptr 2 1 0 0 ∧ gt s.sl 7 = .ptr 3 1 0 0 ∧ gt s.sl 8 = .ptr 4 1 0 0 ∧ s.hp = [.mem false [] [c.cells], .mem false [] [c.cells], .mem false [] [c.cells], .mem false [] [c.cells], .mem false [] [c.cells]])
    (by simp -dsimp [h1, h2, Con.cells, vTerms, vInts, vIntss]) ?_
  clear h1 h2
  rintro ⟨sl, hp, bs⟩ ⟨h1, h2, h5, h6, h7, h8, rfl⟩
  refine vc_cut (fun s => gt s.sl 1 = vInts values ∧ gt s.sl 2 = .ptr 0 1 0 0 ∧ gt s.sl 5 = .ptr 1 1 0 0 ∧ gt s.sl 6 = .ptr 2 1 0 0 ∧ gt s.sl 7 = .ptr 3 1 0 0 ∧ gt s.sl 8 = .ptr 4 1 0 0 ∧ s.hp = [.mem false [] [c.cells], .mem false [] [clC c 1 c.k], .mem false [] [clC c 2 c.k], .mem false [] [clC c 3 c.k], .mem false [] [c.cells]])
    (by simp -dsimp [h1, h2, h5, h6, h7, h8, Con.cells, vTerms, vInts, vIntss]) ?_
  clear h1 h2 h5 h6 h7 h8
  rintro ⟨sl, hp, bs⟩ ⟨h1, h2, h5, h6, h7, h8, rfl⟩
  refine vc_cut (fun s => gt s.sl 1 = vInts values ∧ gt s.sl 2 = .ptr 0 1 0 0 ∧ gt s.sl 5 = .ptr 1 1 0 0 ∧ gt s.sl 6 = .ptr 2 1 0 0 ∧ gt s.sl 7 = .ptr 3 1 0 0 ∧ gt s.sl 8 = .ptr 4 1 0 0 ∧ s.hp = [.mem false [] [c.cells], .mem false [] [clC c 1 c.k], .mem false [] [clC c 2 c.k], .mem false [] [clC c 3 c.k], .mem false [] [clC c 1 c.xs.length]])
    (by simp -dsimp [h1, h2, h5, h6, h7, h8, Con.cells, vTerms, vInts, vIntss]) ?_
  clear h1 h2 h5 h6 h7 h8
  rintro ⟨sl, hp, bs⟩ ⟨h1, h2, h5, h6, h7, h8, rfl⟩
  refine vc_cut (fun s => gt s.sl 1 = vInts values ∧ gt s.sl 5 = .ptr 1 1 0 0 ∧ gt s.sl 6 = .ptr 2 1 0 0 ∧ gt s.sl 7 = .ptr 3 1 0 0 ∧ s.hp = [.mem false [] [c.cells], .mem false [] [clC c 1 c.k], .mem false [] [clC c 2 c.k], .mem false [] [clC c 3 c.k], .mem false [] [clC c 1 c.xs.length]]) ?_ ?_
  · refine vc_cut (fun s => gt s.sl 1 = vInts values ∧ gt s.sl 5 = .ptr 1 1 0 0 ∧ gt s.sl 6 = .ptr 2 1 0 0 ∧ gt s.sl 7 = .ptr 3 1 0 0 ∧ gt s.sl 52 = .bool false ∧ s.hp = [.mem false [] [c.cells], .mem false [] [clC c 1 c.k], .mem false [] [clC c 2 c.k], .mem false [] [clC c 3 c.k], .mem false [] [clC c 1 c.xs.length]]) ?_ ?_
    · refine vc_reg_of (vcIts_cut 19 (fun s => gt s.sl 1 = vInts values ∧ gt s.sl 2 = .ptr 0 1 0 0 ∧ gt s.sl 5 = .ptr 1 1 0 0 ∧ gt s.sl 6 = .ptr 2 1 0 0 ∧ gt s.sl 7 = .ptr 3 1 0 0 ∧ gt s.sl 8 = .ptr 4 1 0 0 ∧ gt s.sl 39 = .bool (decide ((1 ≤ c.op ∧ c.op ≤ 3) ∧ -1000000000 ≤ c.k ∧ c.k ≤ 1000000000)) ∧ s.hp = [.mem false [] [c.cells], .mem false [] [clC c 1 c.k], .mem false [] [clC c 2 c.k], .mem false [] [clC c 3 c.k], .mem false [] [clC c 1 c.xs.length]]) ?_ ?_)
      · by_cases g1 : 1 ≤ c.op
        · by_cases g2 : c.op ≤ 3
          · by_cases g3 : -1000000000 ≤ c.k
            · simp -dsimp [h1, h2, h5, h6, h7, h8, Con.cells, vTerms, vInts, vIntss, g1, g2, g3]
            · simp -dsimp [h1, h2, h5, h6, h7, h8, Con.cells, vTerms, vInts, vIntss, g1, g2, g3]
          · simp -dsimp [h1, h2, h5, h6, h7, h8, Con.cells, vTerms, vInts, vIntss, g1, g2]
        · simp -dsimp [h1, h2, h5, h6, h7, h8, Con.cells, vTerms, vInts, vIntss, g1]
      clear h1 h2 h5 h6 h7 h8
      rintro ⟨sl, hp, bs⟩ ⟨h1, h2, h5, h6, h7, h8, h39, rfl⟩
      by_cases hg : (1 ≤ c.op ∧ c.op ≤ 3) ∧ -1000000000 ≤ c.k ∧ c.k ≤ 1000000000
      · rw [decide_eq_true hg] at h39
        have p2 := p2 hg.2
        simp -dsimp [↓callb_fn, h1, h2, h5, h6, h7, h8, h39, Con.cells, vTerms, vInts, vIntss]
        refine holds_dp { c with op := 1, k := c.xs.length } values oa hv (by simp [Con.cells, vTerms, vInts, vIntss]) ?_
        rw [hba]
        simp -dsimp [↓callb_fn, h1, h2, h5, h6, h7, h8, h39, Con.cells, vTerms, vInts, vIntss]
        refine holds_dp { c with op := 1 } values o1 hv (by simp [Con.cells, vTerms, vInts, vIntss]) ?_
        rw [hb1]
        cases b1
        · simp -dsimp [↓callb_fn, h1, h2, h5, h6, h7, h8, h39, Con.cells, vTerms, vInts, vIntss]
          refine holds_dp { c with op := 3 } values o3 hv (by simp [Con.cells, vTerms, vInts, vIntss]) ?_
          rw [hb3]
          cases b3 <;> cases ba <;> first | (exfalso; revert p2; decide) | simp -dsimp [h1, h2, h5, h6, h7, h8, h39, Con.cells, vTerms, vInts, vIntss]
        · cases b3 <;> cases ba <;> first | (exfalso; revert p2; decide) | simp -dsimp [h1, h2, h5, h6, h7, h8, h39, Con.cells, vTerms, vInts, vIntss]
      · rw [decide_eq_false hg] at h39
        simp -dsimp [h1, h2, h5, h6, h7, h8, h39, Con.cells, vTerms, vInts, vIntss]
    · clear h1 h2 h5 h6 h7 h8
      rintro ⟨sl, hp, bs⟩ ⟨h1, h5, h6, h7, h52, rfl⟩
      simp -dsimp [h1, h5, h6, h7, h52]
  clear h1 h2 h5 h6 h7 h8
  rintro ⟨sl, hp, bs⟩ ⟨h1, h5, h6, h7, rfl⟩
  simp -dsimp [↓callb_fn, h1, h5, h6, h7, Con.cells, vTerms, vInts, vIntss]
  refine holds_dp { c with op := 2 } values o2 hv (by simp [Con.cells, vTerms, vInts, vIntss]) ?_
  rw [hb2]
  simp -dsimp [↓callb_fn, h1, h5, h6, h7, Con.cells, vTerms, vInts, vIntss]
  refine holds_dp { c with op := 1 } values o1 hv (by simp [Con.cells, vTerms, vInts, vIntss]) ?_
  rw [hb1]
  cases b1
  · cases b3 <;> cases b2 <;> first | (exfalso; revert p1; decide) | simp -dsimp [h1, h5, h6, h7, hallmarklaw4_counts.rs]
  · simp -dsimp [↓callb_fn, h1, h5, h6, h7, Con.cells, vTerms, vInts, vIntss]
    refine holds_dp { c with op := 3 } values o3 hv (by simp [Con.cells, vTerms, vInts, vIntss]) ?_
    rw [hb3]
    cases b3 <;> cases b2 <;> first | (exfalso; revert p1; decide) | simp -dsimp [h1, h5, h6, h7, hallmarklaw4_counts.rs]
end Go.Abs.G

/- few, and what it says of sizes. -/
namespace Go.Abs.G
open Go.Proofs
set_option linter.unusedVariables false

structure FewCon (c : Con) : Prop where
  terms : c.terms.length ≤ 20000
  xs : c.xs.length ≤ 20000
  table : c.table.length ≤ 20000
  rows : c.rows.length ≤ 20000
  row : ∀ r ∈ c.rows, r.length ≤ 20000
structure FewM (m : Model) : Prop where
  vars : m.vars.length ≤ 20000
  cons : m.cons.length ≤ 20000
  con : ∀ c ∈ m.cons, FewCon c
  goal : m.goal.length ≤ 20000

/-- What is left behind so many more. -/
def Cnt (a b n : Int) : Prop := 0 ≤ b → 0 ≤ a ∧ b + n ≤ a
theorem Cnt.refl (a : Int) : Cnt a a 0 := fun h => ⟨h, by omega⟩
theorem Cnt.trans {a b c n k : Int} (h : Cnt a b n) (h' : Cnt b c k) : Cnt a c (n + k) := fun hc => by
  have h1 := h' hc
  have h2 := h h1.1
  omega
theorem Cnt.add {a b n k : Int} (h : Cnt a b n) (hk : 0 ≤ k) : Cnt a (addL b k) (n + k) := by
  unfold Cnt addL at *
  split <;> omega

theorem lists2_spec (left : Int) (l : List (List Int)) (h : okLeft left) (hl : l.length ≤ maxLen) (hr : ∀ r ∈ l, r.length ≤ maxLen) :
    DC Try.prog hallmarkroom_Count_Lists.id [.ptr 0 1 0 0, vIntss l] [cnt left] (fun r H => ∃ left', okLeft left' ∧ Cnt left left' l.length ∧ (0 ≤ left' → ∀ r ∈ l, r.length ≤ 20000) ∧ H = [cnt left']) := by
  have hm : (maxLen : Int) ≤ 9223372036854775807 := by decide
  refine DC.of hallmarkroom_Count_Lists.ok (by simp) ?_
  simp [hallmarkroom_Count_Lists.ir, hallmarkroom_Count_Lists.rs, vIntss]
  refine WI.loop 1 (by simp) (fun s => ∃ i left', i ≤ l.length ∧ okLeft left' ∧ Cnt left left' i ∧ (0 ≤ left' → ∀ r ∈ l.take i, r.length ≤ 20000) ∧ gt s.sl 0 = .ptr 0 1 0 0 ∧ gt s.sl 1 = vIntss l ∧ gt s.sl 4 = V.i i ∧ s.hp = [cnt left']) (fun s => (l.length - (gt s.sl 4).num).toNat) ?_ ?_
  · exact ⟨0, left, by simp [vIntss, h]; exact Cnt.refl _⟩
  · rintro ⟨sl, hp, bs⟩ ⟨i, left', hi, h', hct, hall, g0, g1, g4, rfl⟩
    by_cases hil : i < l.length
    · simp [hallmarkroom_Count_Lists.b0, g0, g1, g4, vIntss, hil]
      refine DC.mono (ok_spec left') fun r H' ⟨hr', hH⟩ => ?_
      subst hr' hH
      by_cases h0 : 0 ≤ left'
      · simp [h0]
        refine DC.mono (add_spec left' 1 h' (by decide) (by decide)) fun r H' ⟨_, hH⟩ => ?_
        subst hH
        have hr2 := hr _ (List.getElem_mem hil)
        simp [vInts]
        refine DC.mono (add_spec _ (l[i].length) (addL_ok h' (by decide) (by decide)) (by omega) (by omega)) fun r H' ⟨_, hH⟩ => ?_
        subst hH
        have hw : IntKind.i64.wrap ((i : Int) + 1) = ((i + 1 : Nat) : Int) := by rw [wrap64] <;> omega
        simp [hw]
        have hc2 := (hct.add (k := 1) (by omega)).add (k := l[i].length) (by omega)
        refine ⟨⟨i + 1, by omega, _, addL_ok (addL_ok h' (by decide) (by decide)) (by omega) (by omega), fun hb => ?_, fun hb r hr' => ?_, by omega, rfl⟩, by omega⟩
        · have := hc2 hb
          omega
        · have hx := hc2 hb
          unfold okLeft at h
          rw [List.take_succ_eq_append_getElem hil] at hr'
          rcases List.mem_append.1 hr' with hr' | hr'
          · exact hall h0 r hr'
          · have : r = l[i] := by simpa using hr'
            subst this
            omega
      · simp [h0]
        exact ⟨_, h', fun hb => absurd hb h0, fun hb => absurd hb h0, rfl⟩
    · obtain rfl : i = l.length := by omega
      simp [hallmarkroom_Count_Lists.b0, g0, g1, g4, vIntss]
      exact ⟨_, h', hct, by simpa using hall, rfl⟩

theorem cntCon2_spec (left : Int) (c : Con) (h : okLeft left) (hc : okCon c) :
    DC Try.prog hallmarkroom_Count_Con.id [.ptr 0 1 0 0, .agg c.cells] [cnt left] (fun r H => ∃ left' o, okLeft left' ∧ Cnt left left' 1 ∧ (0 ≤ left' → FewCon c) ∧ H = [cnt left', o]) := by
  have hm : (maxLen : Int) ≤ 9223372036854775807 := by decide
  obtain ⟨_, _, ⟨h3, _⟩, _, _, _, _, ⟨h8, _⟩, ⟨h9, _⟩, h10, h11⟩ := hc
  refine DC.of hallmarkroom_Count_Con.ok (by simp) ?_
  simp [hallmarkroom_Count_Con.ir, hallmarkroom_Count_Con.rs, Con.cells, vTerms, vInts, vIntss]
  refine DC.mono (add_spec left 1 h (by decide) (by decide)) fun r H' ⟨_, hH⟩ => ?_
  subst hH
  have k1 := addL_ok h (n := 1) (by decide) (by decide)
  simp
  refine DC.mono (add_spec _ c.terms.length k1 (by omega) (by omega)) fun r H' ⟨_, hH⟩ => ?_
  subst hH
  have k2 := addL_ok k1 (n := c.terms.length) (by omega) (by omega)
  simp
  refine DC.mono (add_spec _ c.xs.length k2 (by omega) (by omega)) fun r H' ⟨_, hH⟩ => ?_
  subst hH
  have k3 := addL_ok k2 (n := c.xs.length) (by omega) (by omega)
  simp
  refine DC.mono (add_spec _ c.table.length k3 (by omega) (by omega)) fun r H' ⟨_, hH⟩ => ?_
  subst hH
  have k4 := addL_ok k3 (n := c.table.length) (by omega) (by omega)
  simp
  refine DC.mono (lists2_spec _ c.rows k4 h10 fun r hr => (h11 r hr).1) fun r H' ⟨left', ho, hct, hall, hH⟩ => ?_
  subst hH
  simp
  have hc1 := (((((Cnt.refl left).add (k := 1) (by omega)).add (k := c.terms.length) (by omega)).add (k := c.xs.length) (by omega)).add (k := c.table.length) (by omega)).trans hct
  unfold okLeft at h
  refine ⟨_, ho, fun hb => ?_, fun hb => ?_, rfl⟩
  · have := hc1 hb
    omega
  · have hx := hc1 hb
    exact ⟨by omega, by omega, by omega, by omega, hall hb⟩

theorem cntModel2_spec (left : Int) (m : Model) (h : okLeft left) (hm' : okModel m) :
    DC Try.prog hallmarkroom_Count_Model.id [.ptr 0 1 0 0, .agg m.cells] [cnt left] (fun r H => ∃ left' o, okLeft left' ∧ (0 ≤ left' → FewM m) ∧ H = [cnt left', o]) := by
  have hm : (maxLen : Int) ≤ 9223372036854775807 := by decide
  obtain ⟨⟨hv, hv'⟩, ⟨hc, hc'⟩, hg, _⟩ := hm'
  refine DC.of hallmarkroom_Count_Model.ok (by simp) ?_
  simp [hallmarkroom_Count_Model.ir, hallmarkroom_Count_Model.rs, Model.cells, vVars, vCons, vTerms]
  refine WI.mono (Q := fun e s => e = .exit 0 ∧ ∃ left', okLeft left' ∧ Cnt left left' 0 ∧ (0 ≤ left' → m.vars.length ≤ 20000) ∧ gt s.sl 0 = .ptr 0 1 0 0 ∧ gt s.sl 3 = .ptr 1 1 0 0 ∧ s.hp = [cnt left', .mem false [] [m.cells]]) (WI.loop 2 (by simp) (fun s => ∃ i left', i ≤ m.vars.length ∧ okLeft left' ∧ Cnt left left' i ∧ gt s.sl 0 = .ptr 0 1 0 0 ∧ gt s.sl 3 = .ptr 1 1 0 0 ∧ gt s.sl 4 = V.i i ∧ s.hp = [cnt left', .mem false [] [m.cells]]) (fun s => (m.vars.length - (gt s.sl 4).num).toNat) ?_ ?_) ?_
  · exact ⟨0, left, by simp [Model.cells, vVars, vCons, vTerms, h]; exact Cnt.refl _⟩
  · rintro ⟨sl, hp, bs⟩ ⟨i, left', hi, h', hct, g0, g3, g4, rfl⟩
    by_cases hil : i < m.vars.length
    · simp [hallmarkroom_Count_Model.b0, g0, g3, g4, Model.cells, vVars, vCons, vTerms, hil]
      refine DC.mono (ok_spec left') fun r H' ⟨hr', hH⟩ => ?_
      subst hr' hH
      by_cases h0 : 0 ≤ left'
      · have hr2 := (hv' _ (List.getElem_mem hil)).1
        simp [h0, hil, Var.cells]
        refine DC.mono (text_spec left' _ h' hr2) fun r H' hH => ?_
        subst hH
        have hw : IntKind.i64.wrap ((i : Int) + 1) = ((i + 1 : Nat) : Int) := by rw [wrap64] <;> omega
        simp [hw]
        have hc2 := (hct.add (k := 1) (by omega)).add (k := m.vars[i].name.size) (by omega)
        refine ⟨⟨i + 1, by omega, _, addL_ok (addL_ok h' (by decide) (by decide)) (by omega) (by omega), fun hb => ?_, by omega, rfl⟩, by omega⟩
        have := hc2 hb
        omega
      · simp [h0]
        exact ⟨_, h', fun hb => absurd hb h0, fun hb => absurd hb h0, rfl⟩
    · obtain rfl : i = m.vars.length := by omega
      simp [hallmarkroom_Count_Model.b0, g0, g3, g4, Model.cells, vVars, vCons, vTerms]
      unfold okLeft at h
      refine ⟨_, h', fun hb => ?_, fun hb => ?_, rfl⟩
      · have := hct hb; omega
      · have := hct hb; omega
  · rintro e ⟨sl, hp, bs⟩ ⟨rfl, left', h', hc0, hv0, g0, g3, rfl⟩
    simp [g0, g3]
    refine WI.mono (Q := fun e s => e = .exit 2 ∧ ∃ left', okLeft left' ∧ (0 ≤ left' → m.vars.length ≤ 20000 ∧ m.cons.length ≤ 20000 ∧ ∀ c ∈ m.cons, FewCon c) ∧ gt s.sl 0 = .ptr 0 1 0 0 ∧ gt s.sl 3 = .ptr 1 1 0 0 ∧ s.hp = [cnt left', .mem false [] [m.cells]]) (WI.loop 2 (by simp) (fun s => ∃ i left2, i ≤ m.cons.length ∧ okLeft left2 ∧ Cnt left' left2 i ∧ (0 ≤ left2 → ∀ c ∈ m.cons.take i, FewCon c) ∧ gt s.sl 0 = .ptr 0 1 0 0 ∧ gt s.sl 3 = .ptr 1 1 0 0 ∧ gt s.sl 5 = V.i i ∧ s.hp = [cnt left2, .mem false [] [m.cells]]) (fun s => (m.cons.length - (gt s.sl 5).num).toNat) ?_ ?_) ?_
    · exact ⟨0, left', by simp [g0, g3, h']; exact Cnt.refl _⟩
    · clear g0 g3
      rintro ⟨sl, hp, bs⟩ ⟨i, left2, hi, h2, hct, hall, g0, g3, g4, rfl⟩
      by_cases hil : i < m.cons.length
      · simp [hallmarkroom_Count_Model.b1, g0, g3, g4, Model.cells, vVars, vCons, vTerms, hil]
        refine DC.mono (ok_spec left2) fun r H' ⟨hr', hH⟩ => ?_
        subst hr' hH
        by_cases h0 : 0 ≤ left2
        · simp [h0, hil, Con.cells, vTerms, vInts, vIntss]
          refine DC.mono (cntCon2_spec left2 _ h2 (hc' _ (List.getElem_mem hil))) fun r H' ⟨left3, o, h3, hct3, hf3, hH⟩ => ?_
          subst hH
          have hw : IntKind.i64.wrap ((i : Int) + 1) = ((i + 1 : Nat) : Int) := by rw [wrap64] <;> omega
          simp [hw]
          refine ⟨⟨i + 1, by omega, _, h3, fun hb => ?_, fun hb c hcc => ?_, by omega, rfl⟩, by omega⟩
          · have := (hct.trans hct3) hb
            omega
          · rw [List.take_succ_eq_append_getElem hil] at hcc
            rcases List.mem_append.1 hcc with hcc | hcc
            · exact hall h0 c hcc
            · have : c = m.cons[i] := by simpa using hcc
              subst this
              exact hf3 hb
        · simp [h0]
          exact h2
      · obtain rfl : i = m.cons.length := by omega
        simp [hallmarkroom_Count_Model.b1, g0, g3, g4, Model.cells, vVars, vCons, vTerms]
        have hl2 := h'
        unfold okLeft at hl2
        refine ⟨h2, fun hb => ?_⟩
        have hx := hct hb
        exact ⟨hv0 hx.1, by omega, by simpa using hall hb⟩
    · clear g0 g3 h' hc0 hv0 left'
      rintro e ⟨sl, hp, bs⟩ ⟨rfl, left', h', hF, g0, g3, rfl⟩
      simp [g0, g3, Model.cells, vVars, vCons, vTerms]
      refine DC.mono (add_spec _ m.goal.length h' (by omega) (by omega)) fun r H' ⟨_, hH⟩ => ?_
      subst hH
      simp
      refine ⟨addL_ok h' (by omega) (by omega), fun hb => ?_⟩
      have hx := ((Cnt.refl left').add (k := m.goal.length) (by omega)) hb
      obtain ⟨f1, f2, f3⟩ := hF hx.1
      unfold okLeft at h'
      exact ⟨f1, f2, f3, by omega⟩

theorem few2_spec (m : Model) (values : List Int) (hm' : okModel m) (hv : values.length ≤ maxLen) :
    DP Try.prog hallmarklaw4_few.id [.agg m.cells, vInts values] (fun r => ∃ b, r = .bool b ∧ (b = true → FewM m ∧ values.length ≤ 20000)) := by
  have hm : (maxLen : Int) ≤ 9223372036854775807 := by decide
  refine DC.of hallmarklaw4_few.ok (by simp) ?_
  simp [hallmarklaw4_few.ir, hallmarklaw4_few.rs, Model.cells, vVars, vCons, vTerms, vInts]
  refine DC.mono (many_spec 20000) fun r H' ⟨hr', hH⟩ => ?_
  subst hr' hH
  simp
  refine DC.mono (cntModel2_spec 20000 m (by constructor <;> decide) hm') fun r H' ⟨left', o, h', hF, hH⟩ => ?_
  subst hH
  simp
  refine DC.mono (add_spec left' values.length h' (by omega) (by omega)) fun r H' ⟨_, hH⟩ => ?_
  subst hH
  simp
  refine DC.mono (ok_spec _) fun r H' ⟨hr', hH⟩ => ?_
  subst hr' hH
  simp
  rcases Int.lt_or_le (addL left' values.length) 0 with hb | hb
  · exact .inl hb
  · have hx := ((Cnt.refl left').add (k := values.length) (by omega)) hb
    unfold okLeft at h'
    exact .inr ⟨hb, hF hx.1, by omega⟩
end Go.Abs.G

namespace Go.Abs.G
open Go.Proofs
set_option linter.unusedVariables false
set_option linter.unusedSimpArgs false

abbrev clR (c : Con) (v : V) : List V := [V.i c.kind, V.i c.op, .view 2 (c.terms.map Term.cells), V.i c.k, V.i c.v, V.i c.x, V.i c.y, .view 1 (c.xs.map fun n => [V.i n]), .view 1 (c.table.map fun n => [V.i n]), v]
abbrev rowI (r : List Int) : List V := [vInts r]

theorem fzP_ints (H : Heap) (l : List Int) : V.fzP H (vInts l) = True := by simp [vInts]
theorem fz_ints (H : Heap) (l : List Int) : V.fz H (vInts l) = vInts l := by simp [vInts]
theorem ids_ints (l : List Int) : V.ids (vInts l) = [] := by simp [vInts, V.ids]
theorem flat_ints (l : List Int) : V.slLen (vInts l) = l.length := by simp [vInts]
theorem okSl_ints (H : Heap) (l : List Int) : okSl H (vInts l) = True := by simp [vInts]

theorem okCon_rows {c : Con} (hc : okCon c) {rows : List (List Int)} (hl : rows.length ≤ maxLen) (h : ∀ r ∈ rows, r ∈ c.rows) : okCon { c with rows := rows } := by
  obtain ⟨k1, k2, k3, k4, k5, k6, k7, k8, k9, k10, k11⟩ := hc
  exact ⟨k1, k2, k3, k4, k5, k6, k7, k8, k9, hl, fun r hr => k11 r (h r hr)⟩

theorem tables_spec (c : Con) (values : List Int) (hc : okCon c) (hv : values.length ≤ maxLen) (hk : c.kind = 8) (hne : c.rows ≠ []) (hbig : c.rows.length ≤ 20000) : Pf Try.prog hallmarklaw4_tables.id [.agg c.cells, vInts values] (.bool true) := by
  have hm : (20000 : Nat) + 1 ≤ maxLen := by decide
  have hn1 : 1 ≤ c.rows.length := List.length_pos_iff.2 hne
  obtain ⟨n, hn⟩ : ∃ n, c.rows.length = n := ⟨_, rfl⟩
  have hlt : n - 1 < c.rows.length := by omega
  obtain ⟨last, hlast⟩ : ∃ r, c.rows[n - 1] = r := ⟨_, rfl⟩
  have hmem : last ∈ c.rows := hlast ▸ List.getElem_mem hlt
  obtain ⟨d, hd⟩ : ∃ d : Con, d = { c with rows := c.rows.reverse } := ⟨_, rfl⟩
  obtain ⟨e, he⟩ : ∃ d : Con, d = { c with rows := c.rows ++ [last] } := ⟨_, rfl⟩
  obtain ⟨f, hf⟩ : ∃ d : Con, d = { c with rows := c.rows.take (n - 1) } := ⟨_, rfl⟩
  have od : okCon d := hd ▸ okCon_rows hc (by simp; omega) (by simp)
  have oe : okCon e := he ▸ okCon_rows hc (by simp; omega) (by intro r hr; simp at hr; rcases hr with hr | rfl; exact hr; exact hmem)
  have of : okCon f := hf ▸ okCon_rows hc (by simp; omega) (fun r hr => List.mem_of_mem_take hr)
  -- the plain law
  have L1 : holdsB d values = holdsB c values := hd ▸ holdsB_rows hk hne (by simp [hne]) (by simp) (by simp)
  have L2 : n < 64 → holdsB e values = holdsB c values := fun h => he ▸ holdsB_rows hk hne (by simp) (by intro r; simp; rintro rfl; exact hmem) (by simp; omega)
  have L3 := table_may (c := c) (values := values) hk
  have L4 : mayB c values.length = true → n < 64 ∨ n = 64 := fun h => by
    unfold mayB at h
    simp only [Bool.and_eq_true, decide_eq_true_eq] at h
    have := (conB_table hk h.2).2
    omega
  have L5 : mayB c values.length = true → holdsB c values = false → holdsB f values = false := fun h1 h2 => by
    unfold mayB at h1
    simp only [Bool.and_eq_true, decide_eq_true_eq] at h1
    exact hf ▸ table_less hk h1.2 (fun r hr => List.mem_of_mem_take hr) h2
  obtain ⟨is, his⟩ : ∃ b, holdsB c values = b := ⟨_, rfl⟩
  obtain ⟨my, hmy⟩ : ∃ b, mayB c values.length = b := ⟨_, rfl⟩
  rw [his] at L1 L2 L3 L5
  rw [hmy] at L3 L4 L5
  refine DC.of hallmarklaw4_tables.ok (by simp) ?_
  unfold hallmarklaw4_tables.ir
  refine vc_cut (fun s => gt s.sl 1 = vInts values ∧ gt s.sl 2 = .ptr 0 1 0 0 ∧ s.hp = [.mem false [] [c.cells]]) (by simp [Con.cells, vTerms, vInts, vIntss]) ?_
  rintro ⟨sl, hp, bs⟩ ⟨h1, h2, rfl⟩
  refine vc_cut (fun s => gt s.sl 1 = vInts values ∧ gt s.sl 2 = .ptr 0 1 0 0 ∧ gt s.sl 5 = .bool is ∧ s.hp = [.mem false [] [c.cells]]) ?_ ?_
  · simp -dsimp [↓callb_fn, h1, h2, Con.cells, vTerms, vInts, vIntss]
    refine holds_dp c values hc hv (by simp [Con.cells, vTerms, vInts, vIntss]) ?_
    rw [his]
    simp -dsimp [h1, h2, Con.cells, vTerms, vInts, vIntss]
  clear h1 h2
  rintro ⟨sl, hp, bs⟩ ⟨h1, h2, h5, rfl⟩
  refine vc_cut (fun s => gt s.sl 1 = vInts values ∧ gt s.sl 2 = .ptr 0 1 0 0 ∧ gt s.sl 5 = .bool is ∧ gt s.sl 6 = V.i n ∧ s.hp = [.mem false [] [c.cells]]) (by simp -dsimp [h1, h2, h5, hn, Con.cells, vTerms, vInts, vIntss]) ?_
  clear h1 h2 h5
  rintro ⟨sl, hp, bs⟩ ⟨h1, h2, h5, h6, rfl⟩
  refine vc_cut (fun s => gt s.sl 1 = vInts values ∧ gt s.sl 2 = .ptr 0 1 0 0 ∧ gt s.sl 5 = .bool is ∧ gt s.sl 6 = V.i n ∧ gt s.sl 7 = .ptr 1 1 0 0 ∧ gt s.sl 8 = .ptr 2 1 0 0 ∧ gt s.sl 9 = .ptr 3 1 0 0 ∧ s.hp = [.mem false [] [c.cells], .mem false [] [c.cells], .mem false [] [c.cells], .mem false [] [c.cells]])
    (by simp -dsimp [h1, h2, h5, h6, Con.cells, vTerms, vInts, vIntss]) ?_
  clear h1 h2 h5 h6
  rintro ⟨sl, hp, bs⟩ ⟨h1, h2, h5, h6, h7, h8, h9, rfl⟩
  have nil : V := .a (.slice none 0 0)
  refine vc_cut (fun s => gt s.sl 1 = vInts values ∧ gt s.sl 2 = .ptr 0 1 0 0 ∧ gt s.sl 5 = .bool is ∧ gt s.sl 6 = V.i n ∧ gt s.sl 7 = .ptr 1 1 0 0 ∧ gt s.sl 8 = .ptr 2 1 0 0 ∧ gt s.sl 9 = .ptr 3 1 0 0 ∧ s.hp = [.mem false [] [c.cells], .mem false [] [clR c (.a (.slice none 0 0))], .mem false [] [clR c (.a (.slice none 0 0))], .mem false [] [clR c (.a (.slice none 0 0))]])
    (by simp -dsimp [h1, h2, h5, h6, h7, h8, h9, Con.cells, vTerms, vInts, vIntss]) ?_
  clear h1 h2 h5 h6 h7 h8 h9
  rintro ⟨sl, hp, bs⟩ ⟨h1, h2, h5, h6, h7, h8, h9, rfl⟩
  refine vc_cut (fun s => gt s.sl 1 = vInts values ∧ gt s.sl 2 = .ptr 0 1 0 0 ∧ gt s.sl 5 = .bool is ∧ gt s.sl 6 = V.i n ∧ gt s.sl 7 = .ptr 1 1 0 0 ∧ gt s.sl 8 = .ptr 2 1 0 0 ∧ gt s.sl 9 = .ptr 3 1 0 0 ∧ s.hp = [.mem false [] [c.cells], .mem false [5] [clR c (.own 5 1 0 n n)], .mem false [] [clR c (.a (.slice none 0 0))], .mem false [] [clR c (.a (.slice none 0 0))], .res, .mem false [] (c.rows.reverse.map rowI)]) ?_ ?_
  · have hw0 : IntKind.i64.wrap ((n : Int) - 1) = (n : Int) - 1 := by rw [wrap64] <;> omega
    simp -dsimp [↓loop_f, h1, h2, h5, h6, h7, h8, h9, hw0]
    refine WI.mono (Q := fun e s => e = .exit 0 ∧ gt s.sl 1 = vInts values ∧ gt s.sl 2 = .ptr 0 1 0 0 ∧ gt s.sl 5 = .bool is ∧ gt s.sl 6 = V.i n ∧ gt s.sl 7 = .ptr 1 1 0 0 ∧ gt s.sl 8 = .ptr 2 1 0 0 ∧ gt s.sl 9 = .ptr 3 1 0 0 ∧ s.hp = [.mem false [] [c.cells], .mem false [5] [clR c (.own 5 1 0 n n)], .mem false [] [clR c (.a (.slice none 0 0))], .mem false [] [clR c (.a (.slice none 0 0))], .res, .mem false [] (c.rows.reverse.map rowI)])
      (WI.loop 6 (by simp) (fun s => ∃ k, k ≤ n ∧ gt s.sl 1 = vInts values ∧ gt s.sl 2 = .ptr 0 1 0 0 ∧ gt s.sl 5 = .bool is ∧ gt s.sl 6 = V.i n ∧ gt s.sl 7 = .ptr 1 1 0 0 ∧ gt s.sl 8 = .ptr 2 1 0 0 ∧ gt s.sl 9 = .ptr 3 1 0 0 ∧ gt s.sl 10 = V.i ((n : Int) - 1 - k) ∧
        ((k = 0 ∧ s.hp = [.mem false [] [c.cells], .mem false [] [clR c (.a (.slice none 0 0))], .mem false [] [clR c (.a (.slice none 0 0))], .mem false [] [clR c (.a (.slice none 0 0))]]) ∨
         (0 < k ∧ s.hp = [.mem false [] [c.cells], .mem false [5] [clR c (.own 5 1 0 k k)], .mem false [] [clR c (.a (.slice none 0 0))], .mem false [] [clR c (.a (.slice none 0 0))], .res, .mem false [] ((c.rows.reverse.take k).map rowI)]))) (fun s => ((gt s.sl 10).num + 1).toNat) ?_ ?_) ?_
    · exact ⟨0, by omega, by simp, by simp, by simp, by simp, by simp, by simp, by simp, by simp, .inl ⟨rfl, rfl⟩⟩
    · clear h1 h2 h5 h6 h7 h8 h9
      rintro s ⟨k, hkn, h1, h2, h5, h6, h7, h8, h9, h10, hcase⟩
      by_cases hkl : k < n
      · obtain ⟨i, hi⟩ : ∃ i : Nat, (n : Int) - 1 - k = i := ⟨n - 1 - k, by omega⟩
        have hil : i < c.rows.length := by omega
        rw [hi] at h10
        have hw : IntKind.i64.wrap ((i : Int) - 1) = (i : Int) - 1 := by rw [wrap64] <;> omega
        have hget : c.rows.reverse[k]'(by simp; omega) = c.rows[i] := by rw [List.getElem_reverse]; congr 1; omega
        have htk : (c.rows.reverse.take (k + 1)).map rowI = (c.rows.reverse.take k).map rowI ++ [rowI c.rows[i]] := by
          rw [List.take_succ_eq_append_getElem (by simp; omega), hget]; simp
        have hlR : ((c.rows.reverse.take k).map rowI).length = k := by simp; omega
        obtain ⟨R, hR⟩ : ∃ R, (c.rows.reverse.take k).map rowI = R := ⟨_, rfl⟩
        rw [hR] at htk hlR hcase
        obtain ⟨row, hrow⟩ : ∃ r, c.rows[i] = r := ⟨_, rfl⟩
        rw [hrow] at htk
        have hb : ((k : Int) + 1) * 24 ≤ 140737488355328 := by omega
        rcases hcase with ⟨rfl, hh⟩ | ⟨h0, hh⟩
        · have hR0 : R = [] := List.length_eq_zero_iff.1 hlR
          subst hR0
          simp -dsimp [hallmarklaw4_tables.b0, h1, h2, h5, h6, h7, h8, h9, h10, hh, hil, hrow, hw, Con.cells, vTerms, vInts, vIntss]
          refine ⟨⟨1, by omega, by omega, by omega, rfl, by simpa [rowI, vInts] using htk.symm⟩, by omega⟩
        · simp -dsimp [hallmarklaw4_tables.b0, h1, h2, h5, h6, h7, h8, h9, h10, hh, hil, hrow, hw, hlR, hb, Con.cells, vTerms, vInts, vIntss]
          refine ⟨⟨k + 1, by omega, by omega, by omega, rfl, by simpa [rowI, vInts] using htk.symm⟩, by omega⟩
      · obtain rfl : k = n := by omega
        have hi : (k : Int) - 1 - k = -1 := by omega
        rw [hi] at h10
        rcases hcase with ⟨h0, hh⟩ | ⟨h0, hh⟩
        · omega
        · have htk : c.rows.reverse.take k = c.rows.reverse := List.take_of_length_le (by simp; omega)
          rw [htk] at hh
          simp -dsimp [hallmarklaw4_tables.b0, h1, h2, h5, h6, h7, h8, h9, h10, hh]
    · clear h1 h2 h5 h6 h7 h8 h9
      rintro e s ⟨rfl, h1, h2, h5, h6, h7, h8, h9, hh⟩
      simp -dsimp [h1, h2, h5, h6, h7, h8, h9, hh]
  clear h1 h2 h5 h6 h7 h8 h9
  rintro ⟨sl, hp, bs⟩ ⟨h1, h2, h5, h6, h7, h8, h9, rfl⟩
  have hlen2 : (c.rows.map rowI).length = n := by simp [hn]
  have hb2 : ((n : Int) + 1) * 24 ≤ 140737488355328 := by omega
  have hb1 : (n : Int) * 24 ≤ 140737488355328 := by omega
  have hw0 : IntKind.i64.wrap ((n : Int) - 1) = ((n - 1 : Nat) : Int) := by rw [wrap64] <;> omega
  refine vc_cut (fun s => gt s.sl 1 = vInts values ∧ gt s.sl 2 = .ptr 0 1 0 0 ∧ gt s.sl 5 = .bool is ∧ gt s.sl 6 = V.i n ∧ gt s.sl 7 = .ptr 1 1 0 0 ∧ gt s.sl 8 = .ptr 2 1 0 0 ∧ gt s.sl 9 = .ptr 3 1 0 0 ∧ s.hp = [.mem false [] [c.cells], .mem false [5] [clR c (.own 5 1 0 n n)], .mem false [6] [clR c (.own 6 1 0 (n + 1) (n + 1))], .mem false [] [clR c (.a (.slice none 0 0))], .res, .mem false [] (c.rows.reverse.map rowI), .mem false [] (c.rows.map rowI ++ [rowI last]), .res, .res]) ?_ ?_
  · have hlt' : n - 1 < n := by omega
    simp -dsimp [h1, h2, h5, h6, h7, h8, h9, hn, hw0, hb2, hb1, hlast, hlt', Con.cells, vTerms, vInts, vIntss]
  clear h1 h2 h5 h6 h7 h8 h9
  rintro ⟨sl, hp, bs⟩ ⟨h1, h2, h5, h6, h7, h8, h9, rfl⟩
  refine vc_cut (fun s => gt s.sl 1 = vInts values ∧ gt s.sl 2 = .ptr 0 1 0 0 ∧ gt s.sl 5 = .bool is ∧ gt s.sl 6 = V.i n ∧ gt s.sl 7 = .ptr 1 1 0 0 ∧ gt s.sl 8 = .ptr 2 1 0 0 ∧ gt s.sl 9 = .ptr 3 1 0 0 ∧ s.hp = [.mem false [] [c.cells], .mem false [5] [clR c (.own 5 1 0 n n)], .mem false [6] [clR c (.own 6 1 0 (n + 1) (n + 1))], .mem false [9] [clR c (.own 9 1 0 (n - 1) (n - 1))], .res, .mem false [] (c.rows.reverse.map rowI), .mem false [] (c.rows.map rowI ++ [rowI last]), .res, .res, .mem false [] ((c.rows.take (n - 1)).map rowI)]) ?_ ?_
  · simp -dsimp [h1, h2, h5, h6, h7, h8, h9, hn, hw0, Con.cells, vTerms, vInts, vIntss]
    exact ⟨by omega, rfl⟩
  clear h1 h2 h5 h6 h7 h8 h9
  rintro ⟨sl, hp, bs⟩ ⟨h1, h2, h5, h6, h7, h8, h9, rfl⟩
  have td : List.take n (c.rows.reverse.map rowI) = c.rows.reverse.map rowI := List.take_of_length_le (by simp [hn])
  have te : List.take (n + 1) (c.rows.map rowI ++ [rowI last]) = c.rows.map rowI ++ [rowI last] := List.take_of_length_le (by simp [hn])
  have tf : List.take (n - 1) ((c.rows.take (n - 1)).map rowI) = (c.rows.take (n - 1)).map rowI := List.take_of_length_le (by simp; omega)
  have ed : d.cells = clR c (.view 1 (c.rows.reverse.map rowI)) := by rw [hd]; rfl
  have ee : e.cells = clR c (.view 1 (c.rows.map rowI ++ [rowI last])) := by rw [he]; simp [Con.cells, vIntss, vTerms, vInts]
  have ef : f.cells = clR c (.view 1 ((c.rows.take (n - 1)).map rowI)) := by rw [hf]; rfl
  have ld : (c.rows.reverse.map rowI).length = n := by simp [hn]
  have le : (c.rows.map rowI ++ [rowI last]).length = n + 1 := by simp [hn]
  have lf : ((c.rows.take (n - 1)).map rowI).length = n - 1 := by simp; omega
  obtain ⟨rd, hrd⟩ : ∃ R, c.rows.reverse.map rowI = R := ⟨_, rfl⟩
  obtain ⟨re, hre⟩ : ∃ R, c.rows.map rowI ++ [rowI last] = R := ⟨_, rfl⟩
  obtain ⟨rf, hrf⟩ : ∃ R, (c.rows.take (n - 1)).map rowI = R := ⟨_, rfl⟩
  rw [hrd] at td ed ld h1 h2 h5 h6 h7 h8 h9 ⊢
  rw [hre] at te ee le h1 h2 h5 h6 h7 h8 h9 ⊢
  rw [hrf] at tf ef lf h1 h2 h5 h6 h7 h8 h9 ⊢
  obtain ⟨be, hbe⟩ : ∃ b, holdsB e values = b := ⟨_, rfl⟩
  obtain ⟨bf, hbf⟩ : ∃ b, holdsB f values = b := ⟨_, rfl⟩
  rw [hbe] at L2
  rw [hbf] at L5
  have use : ∀ {b : Con} {r : Bool} {xs : List V} {Q : V → Prop}, okCon b → holdsB b values = r → xs = [.agg b.cells, vInts values] → Q (.bool r) → DP Try.prog model_Holds.id xs Q := fun ob hb hx hq => holds_dp _ values ob hv hx (by rw [hb]; exact hq)
  refine vc_cut (fun s => gt s.sl 1 = vInts values ∧ gt s.sl 2 = .ptr 0 1 0 0 ∧ gt s.sl 5 = .bool is ∧ gt s.sl 6 = V.i n ∧ gt s.sl 8 = .ptr 2 1 0 0 ∧ gt s.sl 9 = .ptr 3 1 0 0 ∧ s.hp = [.mem false [] [c.cells], .mem false [5] [clR c (.own 5 1 0 n n)], .mem false [6] [clR c (.own 6 1 0 (n + 1) (n + 1))], .mem false [9] [clR c (.own 9 1 0 (n - 1) (n - 1))], .res, .mem false [] rd, .mem false [] re, .res, .res, .mem false [] rf]) ?_ ?_
  · simp -dsimp [↓callb_fn, h1, h2, h5, h6, h7, h8, h9, td, ld, fzP_ints, fz_ints]
    refine use od L1 (by rw [ed]) ?_
    simp -dsimp [↓callb_fn, h1, h2, h5, h6, h7, h8, h9, fzP_ints, fz_ints]
    by_cases hlt64 : n < 64
    · have hlt64' : (n : Int) < 64 := by omega
      have L2 := L2 hlt64
      cases is
      · simp -dsimp [h1, h2, h5, h6, h7, h8, h9, hallmarklaw4_tables.rs]
      · simp -dsimp [↓callb_fn, h1, h2, h5, h6, h7, h8, h9, hlt64', te, le, fzP_ints, fz_ints]
        refine use oe hbe (by rw [ee]) ?_
        rw [L2]
        simp -dsimp [h1, h2, h5, h6, h7, h8, h9, hallmarklaw4_tables.rs]
    · have hlt64' : ¬ (n : Int) < 64 := by omega
      cases is
      · simp -dsimp [h1, h2, h5, h6, h7, h8, h9, hlt64', hallmarklaw4_tables.rs]
      · simp -dsimp [h1, h2, h5, h6, h7, h8, h9, hlt64', hallmarklaw4_tables.rs]
  clear h1 h2 h5 h6 h7 h8 h9
  rintro ⟨sl, hp, bs⟩ ⟨h1, h2, h5, h6, h8, h9, rfl⟩
  have hnm : n ≤ maxLen := by omega
  refine vc_cut (fun s => gt s.sl 1 = vInts values ∧ gt s.sl 5 = .bool is ∧ gt s.sl 6 = V.i n ∧ gt s.sl 8 = .ptr 2 1 0 0 ∧ gt s.sl 9 = .ptr 3 1 0 0 ∧ my = true ∧ s.hp = [.mem false [] [c.cells], .mem false [5] [clR c (.own 5 1 0 n n)], .mem false [6] [clR c (.own 6 1 0 (n + 1) (n + 1))], .mem false [9] [clR c (.own 9 1 0 (n - 1) (n - 1))], .res, .mem false [] rd, .mem false [] re, .res, .res, .mem false [] rf]) ?_ ?_
  · have hms := may_spec c values.length hc hv
    rw [hmy] at hms
    simp -dsimp [↓callb_fn, h1, h2, h5, h6, h8, h9, fzP_ints, fz_ints, flat_ints, okSl_ints, Con.cells, vTerms, vInts, vIntss]
    refine hms.use ?_
    cases my
    · have L3 := L3 rfl
      cases is
      · simp -dsimp [h1, h2, h5, h6, h8, h9, hallmarklaw4_tables.rs]
      · have hv32 : 32 < values.length := by simpa using L3
        have hv32 : (32 : Int) < values.length := by omega
        simp -dsimp [h1, h2, h5, h6, h8, h9, hallmarklaw4_tables.rs, vInts, hv32]
    · simp -dsimp [h1, h2, h5, h6, h8, h9]
  clear h1 h2 h5 h6 h8 h9
  rintro ⟨sl, hp, bs⟩ ⟨h1, h5, h6, h8, h9, rfl, rfl⟩
  by_cases h64 : n = 64
  · subst h64
    simp -dsimp [h1, h5, h6, h8, h9, hallmarklaw4_tables.rs]
  · have hlt64 : n < 64 := (L4 rfl).resolve_right h64
    have h64' : ¬ (n : Int) = 64 := by omega
    have L2 := L2 hlt64
    simp -dsimp [↓callb_fn, h1, h5, h6, h8, h9, h64', te, le, fzP_ints, fz_ints]
    refine use oe hbe (by rw [ee]) ?_
    rw [L2]
    cases is
    · simp -dsimp [↓callb_fn, h1, h5, h6, h8, h9, tf, lf, fzP_ints, fz_ints]
      refine use of hbf (by rw [ef]) ?_
      rw [L5 rfl rfl]
      simp -dsimp [h1, h5, h6, h8, h9, hallmarklaw4_tables.rs]
    · simp -dsimp [h1, h5, h6, h8, h9, hallmarklaw4_tables.rs]
end Go.Abs.G

namespace Go.Abs.G
open Go.Proofs
set_option linter.unusedVariables false
set_option linter.unusedSimpArgs false

theorem wrap_neg {n : Int} (h : I64 n) : IntKind.i64.wrap (-n) = neg64 n := by
  unfold neg64
  split
  · next e => subst e; decide
  · unfold I64 at h; rw [wrap64] <;> omega

theorem neg64_ok {n : Int} (h : I64 n) : I64 (neg64 n) := by
  unfold neg64; unfold I64 at *; split <;> omega

theorem oneM_ok {c : Con} (hc : okCon c) : okModel ⟨[], [c], false, []⟩ := by
  refine ⟨⟨by simp, by simp⟩, ⟨by simp; decide, by simpa using hc⟩, by simp, by simp⟩

abbrev rowT (t : Term) : List V := [V.i t.c, V.i t.x]

set_option maxHeartbeats 1000000 in
theorem own_rest (c : Con) (values other : List Int) (hc : okCon c) (hv : okInts values) (ho : okInts other) (hF : FewCon c) (hvl : values.length ≤ 20000) (is : Bool) (his : holdsB c values = is) (s0 : St)
    (h1 : gt s0.sl 1 = vInts values) (h3 : gt s0.sl 3 = .ptr 0 1 0 0) (hcase : s0.hp = [.mem false [] [c.cells], .res] ∨ ∃ X, s0.hp = [.mem false [] [c.cells], .res, .res, .mem false [] X]) :
    vc Try.prog (tailC 4 hallmarklaw4_ModelOwn.ir) (fun e s => match e with | .exit _ => False | _ => resP s hallmarklaw4_ModelOwn.rs ∧ (resV s hallmarklaw4_ModelOwn.rs).fzP s.hp ∧ (resV s hallmarklaw4_ModelOwn.rs).fz s.hp = .bool true) s0 := by
  have hm : (20000 : Nat) + 1 ≤ maxLen := by decide
  have hM : (maxLen : Int) ≤ 9223372036854775807 := by decide
  have use : ∀ {b : Con} {r : Bool} {vs : List Int} {xs : List V} {Q : V → Prop}, okCon b → vs.length ≤ maxLen → holdsB b vs = r → xs = [.agg b.cells, vInts vs] → Q (.bool r) → DP Try.prog model_Holds.id xs Q := fun ob hl hb hx hq => holds_dp _ _ ob hl hx (by rw [hb]; exact hq)
  obtain ⟨hp, hhp⟩ : ∃ hp, s0.hp = hp := ⟨_, rfl⟩
  rw [hhp] at hcase
  obtain ⟨sl, hp0, bs⟩ := s0
  simp only at hhp
  subst hhp
  have hh : ∃ tl, hp0 = .mem false [] [c.cells] :: tl := by rcases hcase with e | ⟨X, e⟩ <;> exact ⟨_, e⟩
  obtain ⟨tl, htl⟩ := hh
  unfold hallmarklaw4_ModelOwn.ir
  simp only [tailC]
  refine vc_cut (fun s => gt s.sl 1 = vInts values ∧ gt s.sl 3 = .ptr 0 1 0 0 ∧ s.hp = hp0) ?_ ?_
  · by_cases k8 : c.kind = 8
    · by_cases kr : c.rows = []
      · simp -dsimp [h1, h3, htl, k8, kr, Con.cells, vTerms, vInts, vIntss]
      · have hr1 : 0 < c.rows.length := List.length_pos_iff.2 kr
        have hts := tables_spec c values hc hv.1 k8 kr hF.rows
        simp -dsimp [↓callb_fn, h1, h3, htl, k8, hr1, Con.cells, vTerms, vInts, vIntss]
        refine hts.use' ?_ ?_
        · simp [Con.cells, k8, vTerms, vInts, vIntss]
        simp -dsimp [h1, h3, hallmarklaw4_ModelOwn.rs]
    · simp -dsimp [h1, h3, htl, k8, Con.cells, vTerms, vInts, vIntss]
  clear h1 h3
  rintro ⟨sl, hp, bs⟩ ⟨h1, h3, he⟩
  simp only at he
  subst he
  refine vc_cut (fun s => gt s.sl 1 = vInts values ∧ gt s.sl 3 = .ptr 0 1 0 0 ∧ s.hp = hp) ?_ ?_
  · by_cases k9 : c.kind = 9
    · have hts := counts_spec2 c values hc hv.1 k9
      simp -dsimp [↓callb_fn, h1, h3, htl, k9, Con.cells, vTerms, vInts, vIntss]
      refine hts.use' ?_ ?_
      · simp [Con.cells, k9, vTerms, vInts, vIntss]
      simp -dsimp [h1, h3, hallmarklaw4_ModelOwn.rs]
    · simp -dsimp [h1, h3, htl, k9, Con.cells, vTerms, vInts, vIntss]
  clear h1 h3
  rintro ⟨sl, hp0, bs⟩ ⟨h1, h3, he⟩
  simp only at he
  subst he
  refine vc_cut (fun s => gt s.sl 1 = vInts values ∧ gt s.sl 3 = .ptr 0 1 0 0 ∧ s.hp = hp0 ∧ (c.kind = 1 ∨ c.kind = 7)) ?_ ?_
  · by_cases k1 : c.kind = 1
    · simp -dsimp [h1, h3, htl, k1, Con.cells, vTerms, vInts, vIntss]
    · by_cases k7 : c.kind = 7
      · simp -dsimp [h1, h3, htl, k7, Con.cells, vTerms, vInts, vIntss]
      · simp -dsimp [h1, h3, htl, k1, k7, Con.cells, vTerms, vInts, vIntss, hallmarklaw4_ModelOwn.rs]
  clear h1 h3
  rintro ⟨sl, hp, bs⟩ ⟨h1, h3, he, hk⟩
  simp only at he
  subst he
  clear htl tl
  obtain ⟨k1, k2, ⟨k3, k3'⟩, k4, k5, k6, k7, k8, k9, k10, k11⟩ := hc
  have hc : okCon c := ⟨k1, k2, ⟨k3, k3'⟩, k4, k5, k6, k7, k8, k9, k10, k11⟩
  obtain ⟨n, hn⟩ : ∃ n, c.terms.length = n := ⟨_, rfl⟩
  have hn2 : n ≤ 20000 := hn ▸ hF.terms
  obtain ⟨T, hT⟩ : ∃ T, c.terms.map turn = T := ⟨_, rfl⟩
  have hTl : T.length = n := by rw [← hT]; simp [hn]
  have okT : okTerms T := by
    rw [← hT]
    refine ⟨by simp; omega, fun t ht => ?_⟩
    obtain ⟨u, hu, rfl⟩ := List.mem_map.1 ht
    exact ⟨neg64_ok (k3' u hu).1, (k3' u hu).2⟩
  have okL : ∀ op k terms, 1 ≤ op → op ≤ 3 → I64 k → okTerms terms → okCon (linOf op k terms) := fun op k terms g1 g2 g3 g4 =>
    ⟨by constructor <;> simp [linOf], by constructor <;> simp [linOf] <;> omega, g4, g3, by constructor <;> simp [linOf], by constructor <;> simp [linOf], by constructor <;> simp [linOf], by simp [linOf, okInts], by simp [linOf, okInts], by simp [linOf], by simp [linOf]⟩
  have p1 := lin_eq (k := c.k) (terms := c.terms) (values := values)
  have p2 := lin_turn (k := c.k) (terms := c.terms) (values := values)
  have p3 : c.kind = 7 → is = true → (decide (atI values c.x = 1) && holdsB (linOf 1 c.k c.terms) values || decide (atI values c.x = 0) && !holdsB (linOf 1 c.k c.terms) values) = true := fun h1 h2 => reif_says h1 (his.trans h2)
  rw [hT] at p2
  obtain ⟨b1, hb1⟩ : ∃ b, holdsB (linOf 1 c.k c.terms) values = b := ⟨_, rfl⟩
  obtain ⟨b2, hb2⟩ : ∃ b, holdsB (linOf 2 c.k c.terms) values = b := ⟨_, rfl⟩
  obtain ⟨b3, hb3⟩ : ∃ b, holdsB (linOf 3 c.k c.terms) values = b := ⟨_, rfl⟩
  rw [hb1, hb2, hb3] at p1
  rw [hb1] at p2 p3
  have d0 : IntKind.i64.wrap (-c.k) = neg64 c.k := wrap_neg k4
  have okN : I64 (neg64 c.k) := neg64_ok k4
  have subL : ∀ (op k : Int) (v : V) (terms : List Term), v.sub (vTerms terms) → V.subL [.agg [V.i 1, V.i op, v, V.i k, V.i 0, V.i 0, V.i 0, .a (.slice none 0 0), .a (.slice none 0 0), .a (.slice none 0 0)], vInts values] [.agg (linOf op k terms).cells, vInts values] := fun op k v terms hv => by
    refine V.subL.cons (V.sub.agg ?_) (V.subL.cons (V.sub.refl _) V.subL.nil)
    exact V.subL.cons (V.sub.refl _) (V.subL.cons (V.sub.refl _) (V.subL.cons hv (V.subL.cons (V.sub.refl _) (V.subL.cons (V.sub.refl _) (V.subL.cons (V.sub.refl _) (V.subL.cons (V.sub.refl _) (V.subL.cons (V.sub.nil _) (V.subL.cons (V.sub.nil _) (V.subL.cons (V.sub.nil _) V.subL.nil)))))))))
  have useL : ∀ {op k : Int} {v : V} {terms : List Term} {r : Bool} {Q : V → Prop}, okCon (linOf op k terms) → v.sub (vTerms terms) → holdsB (linOf op k terms) values = r → Q (.bool r) → DP Try.prog model_Holds.id [.agg [V.i 1, V.i op, v, V.i k, V.i 0, V.i 0, V.i 0, .a (.slice none 0 0), .a (.slice none 0 0), .a (.slice none 0 0)], vInts values] Q := fun ob hs hb hq => DP.sub (subL _ _ _ _ hs) (holds_dp _ values ob hv.1 rfl (by rw [hb]; exact hq))
  obtain ⟨L, hL⟩ : ∃ L, hp.length = L := ⟨_, rfl⟩
  obtain ⟨tl, htl⟩ : ∃ tl, hp = .mem false [] [c.cells] :: tl := by rcases hcase with e | ⟨X, e⟩ <;> exact ⟨_, e⟩
  refine vc_cut (fun s => gt s.sl 1 = vInts values ∧ gt s.sl 3 = .ptr 0 1 0 0 ∧ gt s.sl 9 = .a (.slice none 0 0) ∧ s.hp = hp) (by simp -dsimp [h1, h3]) ?_
  clear h1 h3
  rintro ⟨sl, hp2, bs⟩ ⟨h1, h3, h9, he⟩
  simp only at he
  subst he
  refine vc_cut (fun s => gt s.sl 1 = vInts values ∧ gt s.sl 3 = .ptr 0 1 0 0 ∧ ((T = [] ∧ gt s.sl 9 = .a (.slice none 0 0) ∧ s.hp = hp2) ∨ (gt s.sl 9 = .own (L + 1) 2 0 n n ∧ s.hp = hp2 ++ [.res, .mem false [] (T.map rowT)]))) ?_ ?_
  · simp -dsimp [↓loop_f, h1, h3, h9]
    refine WI.mono (Q := fun e s => e = .exit 2 ∧ gt s.sl 1 = vInts values ∧ gt s.sl 3 = .ptr 0 1 0 0 ∧ ((T = [] ∧ gt s.sl 9 = .a (.slice none 0 0) ∧ s.hp = hp2) ∨ (gt s.sl 9 = .own (L + 1) 2 0 n n ∧ s.hp = hp2 ++ [.res, .mem false [] (T.map rowT)])))
      (WI.loop (L + 2) (by simp [hL]) (fun s => ∃ i, i ≤ n ∧ gt s.sl 1 = vInts values ∧ gt s.sl 3 = .ptr 0 1 0 0 ∧ gt s.sl 10 = V.i i ∧ ((i = 0 ∧ gt s.sl 9 = .a (.slice none 0 0) ∧ s.hp = hp2) ∨ (0 < i ∧ gt s.sl 9 = .own (L + 1) 2 0 i i ∧ s.hp = hp2 ++ [.res, .mem false [] ((T.take i).map rowT)]))) (fun s => (n - (gt s.sl 10).num).toNat) ?_ ?_) ?_
    · exact ⟨0, by omega, by simp, by simp, by simp, .inl ⟨rfl, by simp, rfl⟩⟩
    · clear h1 h3 h9
      rintro s ⟨i, hi, h1, h3, h10, hcs⟩
      by_cases hil : i < n
      · have hw : IntKind.i64.wrap ((i : Int) + 1) = ((i + 1 : Nat) : Int) := by rw [wrap64] <;> omega
        have hic : i < c.terms.length := by omega
        have hgt : T[i]? = some (turn c.terms[i]) := by rw [← hT]; simp [hic]
        have htk : (T.take (i + 1)).map rowT = (T.take i).map rowT ++ [rowT (turn c.terms[i])] := by
          rw [List.getElem?_eq_getElem (by omega)] at hgt
          injection hgt with hgt
          rw [List.take_succ_eq_append_getElem (by omega), hgt]; simp
        have hRl : ((T.take i).map rowT).length = i := by simp; omega
        obtain ⟨R, hR⟩ : ∃ R, (T.take i).map rowT = R := ⟨_, rfl⟩
        rw [hR] at htk hRl hcs
        have hI := (k3' _ (List.getElem_mem hic)).1
        obtain ⟨t, ht⟩ : ∃ t, c.terms[i] = t := ⟨_, rfl⟩
        rw [ht] at htk hI
        have hwn : IntKind.i64.wrap (-t.c) = neg64 t.c := wrap_neg hI
        have hb : ((i : Int) + 1) * 16 ≤ 140737488355328 := by omega
        have htk' : R ++ [[V.i (neg64 t.c), V.i t.x]] = (T.take (i + 1)).map rowT := htk.symm
        have hil' : (i : Int) < n := by omega
        have d1 : IntKind.i64.wrap 1 = 1 := by decide
        rcases hcase with e | ⟨X, e⟩
        all_goals
          subst e
          simp only [List.length_cons, List.length_nil] at hL
          subst hL
          rcases hcs with ⟨rfl, h9, hh⟩ | ⟨h0, h9, hh⟩
          · have hR0 : R = [] := List.length_eq_zero_iff.1 hRl
            subst hR0
            simp -dsimp [hallmarklaw4_ModelOwn.b1, h1, h3, h9, h10, hh, hn, hil, hil', ht, hwn, hw, d1, Con.cells, vTerms, vInts, vIntss, Term.cells]
            exact ⟨⟨1, by omega, rfl, by omega, rfl, by simpa using htk'⟩, by omega⟩
          · simp -dsimp [hallmarklaw4_ModelOwn.b1, h1, h3, h9, h10, hh, hn, hil, hil', ht, hwn, hw, hRl, hb, Con.cells, vTerms, vInts, vIntss, Term.cells]
            exact ⟨⟨i + 1, by omega, by omega, by omega, rfl, by simpa using htk'⟩, by omega⟩
      · obtain rfl : i = n := by omega
        have htk : T.take i = T := List.take_of_length_le (by omega)
        rw [htk] at hcs
        have hh : ∃ tl2, s.hp = .mem false [] [c.cells] :: tl2 := by rcases hcs with ⟨_, _, e⟩ | ⟨_, _, e⟩ <;> rw [e, htl] <;> exact ⟨_, rfl⟩
        obtain ⟨tl2, hh⟩ := hh
        simp -dsimp [hallmarklaw4_ModelOwn.b1, h1, h3, h10, hh, hn, Con.cells, vTerms, vInts, vIntss]
        rcases hcs with ⟨rfl, h9, hh'⟩ | ⟨h0, h9, hh'⟩
        · exact .inl ⟨List.length_eq_zero_iff.1 (by omega), h9, by rw [← hh']; simpa [Con.cells, vTerms, vInts, vIntss] using hh.symm⟩
        · exact .inr ⟨h9, by rw [← hh']; simpa [Con.cells, vTerms, vInts, vIntss] using hh.symm⟩
    · rintro e s ⟨rfl, g1, g3, hcs⟩
      simp -dsimp [g1, g3]
      exact hcs
  clear h1 h3 h9
  rintro s ⟨h1, h3, hcs⟩
  obtain ⟨sl, hp, bs⟩ := s
  have hTt : List.take n (T.map rowT) = T.map rowT := List.take_of_length_le (by simp; omega)
  have hh : ∃ tl2, hp = .mem false [] [c.cells] :: tl2 := by rcases hcs with ⟨_, _, e⟩ | ⟨_, e⟩ <;> exact ⟨_, (show hp = _ from e).trans (by rw [htl] <;> rfl)⟩
  obtain ⟨tl2, hh⟩ := hh
  obtain ⟨v9, hv9⟩ : ∃ v, gt sl 9 = v := ⟨_, rfl⟩
  have h9 : gt (⟨sl, hp, bs⟩ : St).sl 9 = v9 := hv9
  have hc9 : (T = [] ∧ v9 = .a (.slice none 0 0) ∧ hp = hp2) ∨ (v9 = .own (L + 1) 2 0 n n ∧ hp = hp2 ++ [.res, .mem false [] (T.map rowT)]) := by
    rcases hcs with ⟨a1, a2, a3⟩ | ⟨a2, a3⟩
    · exact .inl ⟨a1, hv9.symm.trans a2, a3⟩
    · exact .inr ⟨hv9.symm.trans a2, a3⟩
  clear hcs hv9
  refine vc_cut (fun s => gt s.sl 1 = vInts values ∧ gt s.sl 3 = .ptr 0 1 0 0 ∧ gt s.sl 9 = v9 ∧ gt s.sl 11 = .bool b1 ∧ s.hp = hp) ?_ ?_
  · simp -dsimp [↓callb_fn, h1, h3, h9, hh, Con.cells, vTerms, vInts, vIntss]
    refine useL (okL 1 c.k c.terms (by omega) (by omega) k4 ⟨k3, k3'⟩) (V.sub.refl _) hb1 ?_
    simp -dsimp [h1, h3, h9, hh]
  clear h1 h3 h9
  rintro ⟨sl, hp', bs⟩ ⟨h1, h3, h9, h11, he⟩
  simp only at he
  subst he
  refine vc_cut (fun s => gt s.sl 1 = vInts values ∧ gt s.sl 3 = .ptr 0 1 0 0 ∧ gt s.sl 9 = v9 ∧ gt s.sl 11 = .bool b1 ∧ gt s.sl 12 = .bool b3 ∧ s.hp = hp') ?_ ?_
  · simp -dsimp [↓callb_fn, h1, h3, h9, h11, hh, Con.cells, vTerms, vInts, vIntss]
    refine useL (okL 3 c.k c.terms (by omega) (by omega) k4 ⟨k3, k3'⟩) (V.sub.refl _) hb3 ?_
    simp -dsimp [h1, h3, h9, h11, hh]
  clear h1 h3 h9 h11
  rintro ⟨sl, hp, bs⟩ ⟨h1, h3, h9, h11, h12, he⟩
  simp only at he
  subst he
  refine vc_cut (fun s => gt s.sl 1 = vInts values ∧ gt s.sl 3 = .ptr 0 1 0 0 ∧ gt s.sl 9 = v9 ∧ gt s.sl 11 = .bool b1 ∧ gt s.sl 12 = .bool b3 ∧ gt s.sl 13 = .bool b2 ∧ s.hp = hp) ?_ ?_
  · simp -dsimp [↓callb_fn, h1, h3, h9, h11, h12, hh, Con.cells, vTerms, vInts, vIntss]
    refine useL (okL 2 c.k c.terms (by omega) (by omega) k4 ⟨k3, k3'⟩) (V.sub.refl _) hb2 ?_
    simp -dsimp [h1, h3, h9, h11, h12, hh]
  clear h1 h3 h9 h11 h12
  rintro ⟨sl, hp', bs⟩ ⟨h1, h3, h9, h11, h12, h13, he⟩
  simp only at he
  subst he
  refine vc_cut (fun s => gt s.sl 1 = vInts values ∧ gt s.sl 3 = .ptr 0 1 0 0 ∧ gt s.sl 11 = .bool b1 ∧ s.hp = hp') ?_ ?_
  · have hTm : (T.map rowT).length = n := by simp [hTl]
    have hpick : b2 = (if b1 = true then b3 else false) := by rw [p1]; cases b1 <;> cases b3 <;> rfl
    have hvT : V.view 2 (T.map rowT) = vTerms T := rfl
    rcases hc9 with ⟨a1, rfl, a3⟩ | ⟨rfl, a3⟩
    · subst a1
      rcases hcase with e | ⟨X, e⟩
      all_goals
        subst a3
        subst e
        cases b1
        · have hb2f : b2 = false := by rw [hpick]; rfl
          subst hb2f
          simp -dsimp [↓callb_fn, h1, h3, h9, h11, h12, h13, d0, Con.cells, vTerms, vInts, vIntss]
          refine useL (okL 3 (neg64 c.k) [] (by omega) (by omega) okN okT) (V.sub.nil _) p2 ?_
          simp -dsimp [h1, h3, h11, Con.cells, vTerms, vInts, vIntss]
        · have hb2f : b2 = b3 := by rw [hpick]; rfl
          subst hb2f
          simp -dsimp [↓callb_fn, h1, h3, h9, h11, h12, h13, d0, Con.cells, vTerms, vInts, vIntss]
          refine useL (okL 3 (neg64 c.k) [] (by omega) (by omega) okN okT) (V.sub.nil _) p2 ?_
          simp -dsimp [h1, h3, h11, Con.cells, vTerms, vInts, vIntss]
    · obtain ⟨RT, hRT⟩ : ∃ R, T.map rowT = R := ⟨_, rfl⟩
      rw [hRT] at hTt hTm hvT a3
      rcases hcase with e | ⟨X, e⟩
      all_goals
        subst e
        simp only [List.length_cons, List.length_nil] at hL
        subst hL
        subst a3
        cases b1
        · have hb2f : b2 = false := by rw [hpick]; rfl
          subst hb2f
          simp -dsimp [↓callb_fn, h1, h3, h9, h11, h12, h13, d0, hTt, hTm, Con.cells, vTerms, vInts, vIntss]
          refine useL (okL 3 (neg64 c.k) T (by omega) (by omega) okN okT) (hvT ▸ V.sub.refl _) p2 ?_
          simp -dsimp [h1, h3, h11, Con.cells, vTerms, vInts, vIntss]
        · have hb2f : b2 = b3 := by rw [hpick]; rfl
          subst hb2f
          simp -dsimp [↓callb_fn, h1, h3, h9, h11, h12, h13, d0, hTt, hTm, Con.cells, vTerms, vInts, vIntss]
          refine useL (okL 3 (neg64 c.k) T (by omega) (by omega) okN okT) (hvT ▸ V.sub.refl _) p2 ?_
          simp -dsimp [h1, h3, h11, Con.cells, vTerms, vInts, vIntss]
  clear h1 h3 h9 h11 h12 h13
  rintro ⟨sl, hp, bs⟩ ⟨h1, h3, h11, he⟩
  simp only at he
  subst he
  refine vc_cut (fun s => True) ?_ ?_
  · by_cases k77 : c.kind = 7
    · by_cases x0 : 0 ≤ c.x
      · by_cases x1 : c.x < values.length
        · simp -dsimp [↓callb_fn, h1, h3, h11, hh, k77, x0, x1, Con.cells, vTerms, vInts, vIntss]
          refine use (b := c) hc hv.1 his (by simp [Con.cells, k77, vTerms, vInts, vIntss]) ?_
          cases is
          · simp -dsimp [h1, h3, h11, hh]
          · have p3 := p3 k77 rfl
            obtain ⟨m, hmx⟩ := Int.eq_ofNat_of_zero_le x0
            have hmv : m < values.length := by omega
            have hat : atI values c.x = values[m] := by rw [hmx]; simp [atI, List.getD, hmv]
            rw [hat] at p3
            obtain ⟨v, hv'⟩ : ∃ v, values[m] = v := ⟨_, rfl⟩
            rw [hv'] at p3
            by_cases v1 : v = 1
            · subst v1
              cases b1
              · simp at p3
              · simp -dsimp [h1, h3, h11, hh, hmx, hmv, hv', vInts, Con.cells, vTerms, vIntss, hallmarklaw4_ModelOwn.rs]
            · by_cases v0 : v = 0
              · subst v0
                cases b1
                · simp -dsimp [h1, h3, h11, hh, hmx, hmv, hv', vInts, Con.cells, vTerms, vIntss, hallmarklaw4_ModelOwn.rs]
                · simp at p3
              · exfalso
                simp [v0, v1] at p3
        · simp -dsimp [h1, h3, h11, hh, k77, x0, x1, Con.cells, vTerms, vInts, vIntss]
      · simp -dsimp [h1, h3, h11, hh, k77, x0, Con.cells, vTerms, vInts, vIntss]
    · simp -dsimp [h1, h3, h11, hh, k77, Con.cells, vTerms, vInts, vIntss]
  rintro s _
  simp [hallmarklaw4_ModelOwn.rs]

theorem own_law (c : Con) (values other : List Int) (hc : okCon c) (hv : okInts values) (ho : okInts other) : Pf Try.prog hallmarklaw4_ModelOwn.id [.agg c.cells, vInts values, vInts other] (.bool true) := by
  have hm : (20000 : Nat) + 1 ≤ maxLen := by decide
  have hM : (maxLen : Int) ≤ 9223372036854775807 := by decide
  refine DC.of hallmarklaw4_ModelOwn.ok (by simp) ?_
  unfold hallmarklaw4_ModelOwn.ir
  refine vc_cut (fun s => gt s.sl 1 = vInts values ∧ gt s.sl 2 = vInts other ∧ gt s.sl 3 = .ptr 0 1 0 0 ∧ s.hp = [.mem false [] [c.cells]]) (by simp [Con.cells, vTerms, vInts, vIntss]) ?_
  rintro ⟨sl, hp, bs⟩ ⟨h1, h2, h3, rfl⟩
  refine vc_cut (fun s => gt s.sl 1 = vInts values ∧ gt s.sl 2 = vInts other ∧ gt s.sl 3 = .ptr 0 1 0 0 ∧ s.hp = [.mem false [] [c.cells], .res] ∧ FewCon c ∧ values.length ≤ 20000) ?_ ?_
  · simp -dsimp [↓callb_fn, h1, h2, h3, Con.cells, vTerms, vInts, vIntss]
    refine DP.mono (DP.sub ?_ (few2_spec ⟨[], [c], false, []⟩ values (oneM_ok hc) hv.1)) fun r ⟨b, hr, hf⟩ => ?_
    · refine V.subL.cons (V.sub.agg ?_) (V.subL.cons (V.sub.refl _) V.subL.nil)
      exact V.subL.cons (V.sub.nil _) (V.subL.cons (V.sub.refl _) (V.subL.cons (V.sub.refl _) (V.subL.cons (V.sub.nil _) V.subL.nil)))
    subst hr
    cases b
    · simp -dsimp [h1, h2, h3, Con.cells, vTerms, vInts, vIntss, hallmarklaw4_ModelOwn.rs]
    · have hf := hf rfl
      have hfc := hf.1.con c (by simp)
      simp -dsimp [↓callb_fn, h1, h2, h3, Con.cells, vTerms, vInts, vIntss]
      refine DP.mono (DP.sub ?_ (few2_spec ⟨[], [], false, []⟩ other ⟨⟨by simp, by simp⟩, ⟨by simp, by simp⟩, by simp, by simp⟩ ho.1)) fun r ⟨b, hr, _⟩ => ?_
      · refine V.subL.cons (V.sub.agg ?_) (V.subL.cons (V.sub.refl _) V.subL.nil)
        exact V.subL.cons (V.sub.nil _) (V.subL.cons (V.sub.nil _) (V.subL.cons (V.sub.refl _) (V.subL.cons (V.sub.nil _) V.subL.nil)))
      subst hr
      cases b
      · simp -dsimp [h1, h2, h3, Con.cells, vTerms, vInts, vIntss, hallmarklaw4_ModelOwn.rs]
      · simp -dsimp [h1, h2, h3, Con.cells, vTerms, vInts, vIntss]
        exact ⟨hfc, hf.2⟩
  clear h1 h2 h3
  rintro ⟨sl, hp, bs⟩ ⟨h1, h2, h3, rfl, hF, hvl⟩
  refine vc_cut (fun s => gt s.sl 1 = vInts values ∧ gt s.sl 2 = vInts other ∧ gt s.sl 3 = .ptr 0 1 0 0 ∧ s.hp = [.mem false [] [c.cells], .res]) ?_ ?_
  · simp -dsimp [↓callb_fn, h1, h2, h3]
    refine known_spec.use ?_
    simp -dsimp [h1, h2, h3]
  clear h1 h2 h3
  rintro ⟨sl, hp, bs⟩ ⟨h1, h2, h3, rfl⟩
  have use : ∀ {b : Con} {r : Bool} {vs : List Int} {xs : List V} {Q : V → Prop}, okCon b → vs.length ≤ maxLen → holdsB b vs = r → xs = [.agg b.cells, vInts vs] → Q (.bool r) → DP Try.prog model_Holds.id xs Q := fun ob hl hb hx hq => holds_dp _ _ ob hl hx (by rw [hb]; exact hq)
  obtain ⟨is, his⟩ : ∃ b, holdsB c values = b := ⟨_, rfl⟩
  refine vc_cut (fun s => gt s.sl 1 = vInts values ∧ gt s.sl 3 = .ptr 0 1 0 0 ∧ (s.hp = [.mem false [] [c.cells], .res] ∨ ∃ X, s.hp = [.mem false [] [c.cells], .res, .res, .mem false [] X])) ?_ ?_
  · refine vc_cut (fun s => gt s.sl 1 = vInts values ∧ gt s.sl 2 = vInts other ∧ gt s.sl 3 = .ptr 0 1 0 0 ∧ gt s.sl 30 = .bool is ∧ s.hp = [.mem false [] [c.cells], .res]) ?_ ?_
    · simp -dsimp [↓callb_fn, h1, h2, h3, fzP_ints, fz_ints, Con.cells, vTerms, vInts, vIntss]
      refine use hc hv.1 his (by simp [Con.cells, vTerms, vInts, vIntss]) ?_
      simp -dsimp [h1, h2, h3]
    clear h1 h2 h3
    rintro ⟨sl, hp, bs⟩ ⟨h1, h2, h3, h30, rfl⟩
    cases is
    · simp -dsimp [h1, h2, h3, h30]
    · rw [vc_cond_true (by simpa using h30)]
      clear h30
      obtain ⟨M, hM'⟩ : ∃ M, mixL c values other = M := ⟨_, rfl⟩
      have hMl : M.length = values.length := by rw [← hM']; simp [mixL]
      have hMget : ∀ i (h : i < values.length), M[i]? = some (mixAt c values other i) := fun i h => by rw [← hM']; simp [mixL, h]
      have hMh : holdsB c M = true := hM' ▸ holds_mixed his
      have hMtake : ∀ i, i < values.length → M.take (i + 1) = M.take i ++ [mixAt c values other i] := fun i h => by
        have := hMget i h
        rw [List.getElem?_eq_getElem (by omega)] at this
        injection this with this
        rw [List.take_succ_eq_append_getElem (by omega), this]
      obtain ⟨n, hn⟩ : ∃ n, values.length = n := ⟨_, rfl⟩
      refine vc_cut (fun s => gt s.sl 1 = vInts values ∧ gt s.sl 2 = vInts other ∧ gt s.sl 3 = .ptr 0 1 0 0 ∧ gt s.sl 7 = .a (.slice none 0 0) ∧ s.hp = [.mem false [] [c.cells], .res]) (by simp -dsimp [h1, h2, h3]) ?_
      clear h1 h2 h3
      rintro ⟨sl, hp, bs⟩ ⟨h1, h2, h3, h7, rfl⟩
      refine vc_cut (fun s => gt s.sl 1 = vInts values ∧ gt s.sl 3 = .ptr 0 1 0 0 ∧ ((M = [] ∧ gt s.sl 7 = .a (.slice none 0 0) ∧ s.hp = [.mem false [] [c.cells], .res]) ∨ (gt s.sl 7 = .own 3 1 0 n n ∧ s.hp = [.mem false [] [c.cells], .res, .res, .mem false [] (M.map fun n => [V.i n])]))) ?_ ?_
      · simp -dsimp [↓loop_f, h1, h2, h3, h7]
        refine WI.mono (Q := fun e s => e = .exit 0 ∧ gt s.sl 1 = vInts values ∧ gt s.sl 3 = .ptr 0 1 0 0 ∧ ((M = [] ∧ gt s.sl 7 = .a (.slice none 0 0) ∧ s.hp = [.mem false [] [c.cells], .res]) ∨ (gt s.sl 7 = .own 3 1 0 n n ∧ s.hp = [.mem false [] [c.cells], .res, .res, .mem false [] (M.map fun n => [V.i n])])))
          (WI.loop 4 (by simp) (fun s => ∃ i, i ≤ n ∧ gt s.sl 1 = vInts values ∧ gt s.sl 2 = vInts other ∧ gt s.sl 3 = .ptr 0 1 0 0 ∧ gt s.sl 8 = V.i i ∧ ((i = 0 ∧ gt s.sl 7 = .a (.slice none 0 0) ∧ s.hp = [.mem false [] [c.cells], .res]) ∨ (0 < i ∧ gt s.sl 7 = .own 3 1 0 i i ∧ s.hp = [.mem false [] [c.cells], .res, .res, .mem false [] ((M.take i).map fun n => [V.i n])]))) (fun s => (n - (gt s.sl 8).num).toNat) ?_ ?_) ?_
        · exact ⟨0, by omega, by simp, by simp, by simp, by simp, .inl ⟨rfl, by simp, rfl⟩⟩
        · clear h1 h2 h3 h7
          rintro s ⟨i, hi, h1, h2, h3, h8, hcase⟩
          by_cases hil : i < n
          · have hiv : i < values.length := by omega
            have hw : IntKind.i64.wrap ((i : Int) + 1) = ((i + 1 : Nat) : Int) := by rw [wrap64] <;> omega
            have htk := congrArg (fun l => l.map fun n => [V.i n]) (hMtake i hiv)
            simp only [List.map_append, List.map_cons, List.map_nil] at htk
            have hil' : (i : Int) < values.length := by omega
            have hRl : ((M.take i).map fun n => [V.i n]).length = i := by simp; omega
            obtain ⟨R, hR⟩ : ∃ R, (M.take i).map (fun n => [V.i n]) = R := ⟨_, rfl⟩
            rw [hR] at htk hRl hcase
            have hb : ((i : Int) + 1) * 8 ≤ 140737488355328 := by omega
            have d1 : IntKind.i64.wrap 1 = 1 := by decide
            obtain ⟨v, hvv⟩ : ∃ v, values[i] = v := ⟨_, rfl⟩
            unfold hallmarklaw4_ModelOwn.b0
            refine vc_cut (fun s' => gt s'.sl 1 = vInts values ∧ gt s'.sl 2 = vInts other ∧ gt s'.sl 3 = .ptr 0 1 0 0 ∧ gt s'.sl 8 = V.i i ∧ gt s'.sl 7 = gt s.sl 7 ∧ s'.hp = s.hp) (by simp -dsimp [h1, h2, h3, h8, hil', vInts]) ?_
            rintro s2 ⟨g1, g2, g3, g8, g7, ge⟩
            have hcase2 : ((i = 0 ∧ gt s2.sl 7 = .a (.slice none 0 0) ∧ s2.hp = [.mem false [] [c.cells], .res]) ∨ (0 < i ∧ gt s2.sl 7 = .own 3 1 0 i i ∧ s2.hp = [.mem false [] [c.cells], .res, .res, .mem false [] R])) := by rw [g7, ge]; exact hcase
            clear hcase g7 ge h1 h2 h3
            refine vc_cut (fun s => gt s.sl 1 = vInts values ∧ gt s.sl 2 = vInts other ∧ gt s.sl 3 = .ptr 0 1 0 0 ∧ gt s.sl 8 = V.i i ∧ gt s.sl 7 = .own 3 1 0 (i + 1) (i + 1) ∧ ∃ rs, s.hp = [.mem false [] [c.cells], .res, .res, .mem false [] ((M.take (i + 1)).map fun n => [V.i n])] ++ rs) (vc_block_of ?_) ?_
            · refine vc_cut (fun s => gt s.sl 1 = vInts values ∧ gt s.sl 2 = vInts other ∧ gt s.sl 3 = .ptr 0 1 0 0 ∧ gt s.sl 8 = V.i i ∧ gt s.sl 59 = .bool (namesB c i || decide (other.length ≤ i) || decide (other.getD i 0 < -1000000000) || decide (1000000000 < other.getD i 0)) ∧ gt s.sl 7 = gt s2.sl 7 ∧ s.hp = s2.hp) ?_ ?_
              · have hh : s2.hp = .mem false [] [c.cells] :: s2.hp.tail := by rcases hcase2 with ⟨_, _, e⟩ | ⟨_, _, e⟩ <;> rw [e] <;> rfl
                obtain ⟨tl, htl⟩ : ∃ tl, s2.hp.tail = tl := ⟨_, rfl⟩
                rw [htl] at hh
                have hns := names_spec c i hc
                obtain ⟨nb, hnb⟩ : ∃ b, namesB c (i : Int) = b := ⟨_, rfl⟩
                rw [hnb] at hns ⊢
                simp -dsimp [↓callb_fn, g1, g2, g3, g8, hh, Con.cells, vTerms, vInts, vIntss]
                refine hns.use ?_
                cases nb
                · by_cases hol : i < other.length
                  · have hol1 : ¬ other.length ≤ i := by omega
                    have hol2 : ¬ (other.length : Int) ≤ i := by omega
                    have hgd : other[i]?.getD 0 = other[i] := by simp [List.getElem?_eq_getElem hol]
                    obtain ⟨u, hu⟩ : ∃ u, other[i] = u := ⟨_, rfl⟩
                    by_cases hlo : u < -1000000000
                    · simp -dsimp [g1, g2, g3, g8, hh, hol, hol1, hol2, hgd, hu, hlo, Con.cells, vTerms, vInts, vIntss]
                    · simp -dsimp [g1, g2, g3, g8, hh, hol, hol1, hol2, hgd, hu, hlo, Con.cells, vTerms, vInts, vIntss]
                  · have hol1 : other.length ≤ i := by omega
                    have hol2 : (other.length : Int) ≤ i := by omega
                    simp -dsimp [g1, g2, g3, g8, hh, hol1, hol2, Con.cells, vTerms, vInts, vIntss]
                · simp -dsimp [g1, g2, g3, g8, hh, Con.cells, vTerms, vInts, vIntss]
              · rintro s3 ⟨f1, f2, f3, f8, f59, f7, fe⟩
                have hcase3 : ((i = 0 ∧ gt s3.sl 7 = .a (.slice none 0 0) ∧ s3.hp = [.mem false [] [c.cells], .res]) ∨ (0 < i ∧ gt s3.sl 7 = .own 3 1 0 i i ∧ s3.hp = [.mem false [] [c.cells], .res, .res, .mem false [] R])) := by rw [f7, fe]; exact hcase2
                clear hcase2 f7 fe g1 g2 g3 g8
                have hwv : mixAt c values other i = (if (namesB c i || decide (other.length ≤ i) || decide (other.getD i 0 < -1000000000) || decide (1000000000 < other.getD i 0)) = true then values.getD i 0 else other.getD i 0) := rfl
                obtain ⟨b, hbb⟩ : ∃ b, (namesB c i || decide (other.length ≤ i) || decide (other.getD i 0 < -1000000000) || decide (1000000000 < other.getD i 0)) = b := ⟨_, rfl⟩
                rw [hbb] at f59 hwv
                have hvg : values.getD i 0 = v := by simp [List.getD, List.getElem?_eq_getElem hiv, hvv]
                cases b
                · have hol : i < other.length := by
                    simp only [Bool.or_eq_false_iff, decide_eq_false_iff_not] at hbb
                    omega
                  obtain ⟨u, hu⟩ : ∃ u, other[i] = u := ⟨_, rfl⟩
                  have hug : other.getD i 0 = u := by simp [List.getD, List.getElem?_eq_getElem hol, hu]
                  have hmx : mixAt c values other i = u := by rw [hwv, ← hug]; rfl
                  rw [hmx] at htk
                  rw [htk]
                  rcases hcase3 with ⟨rfl, f7, fe⟩ | ⟨h0, f7, fe⟩
                  · have hR0 : R = [] := List.length_eq_zero_iff.1 hRl
                    subst hR0
                    simp -dsimp [f1, f2, f3, f8, f59, f7, fe, hol, hu, vInts]
                  · simp -dsimp [f1, f2, f3, f8, f59, f7, fe, hol, hu, hRl, hb, vInts]
                · have hmx : mixAt c values other i = v := by rw [hwv, ← hvg]; rfl
                  rw [hmx] at htk
                  rw [htk]
                  rcases hcase3 with ⟨rfl, f7, fe⟩ | ⟨h0, f7, fe⟩
                  · have hR0 : R = [] := List.length_eq_zero_iff.1 hRl
                    subst hR0
                    simp -dsimp [f1, f2, f3, f8, f59, f7, fe, hiv, hvv, vInts]
                  · simp -dsimp [f1, f2, f3, f8, f59, f7, fe, hiv, hvv, hRl, hb, vInts]
            · rintro s4 ⟨f1, f2, f3, f8, f7, rs, fe⟩
              simp -dsimp [f1, f2, f3, f8, f7, fe, hw, h8, vInts]
              exact ⟨⟨i + 1, by omega, by omega, by omega, rfl, rfl⟩, by omega⟩
          · obtain rfl : i = n := by omega
            have htk : M.take i = M := List.take_of_length_le (by omega)
            rw [htk] at hcase
            simp -dsimp [hallmarklaw4_ModelOwn.b0, h1, h2, h3, h8, hn, vInts]
            rcases hcase with ⟨rfl, h7, hh⟩ | ⟨h0, h7, hh⟩
            · exact .inl ⟨List.length_eq_zero_iff.1 (by omega), h7, hh⟩
            · exact .inr ⟨h7, hh⟩
        · rintro e s ⟨rfl, g1, g3, hcase⟩
          simp -dsimp [g1, g3]
          exact hcase
      · clear h1 h2 h3 h7
        rintro s ⟨h1, h3, hcase⟩
        have hgo : DP Try.prog model_Holds.id [.agg c.cells, vInts M] fun r => r = .bool true := holds_dp c M hc (by omega) rfl (by rw [hMh])
        have hMt : List.take n (M.map fun n => [V.i n]) = M.map fun n => [V.i n] := List.take_of_length_le (by simp; omega)
        rcases hcase with ⟨rfl, h7, hh⟩ | ⟨h7, hh⟩
        · simp -dsimp [↓callb_fn, h1, h3, h7, hh, Con.cells, vTerms, vInts, vIntss]
          refine DP.mono (DP.sub ?_ hgo) fun r hr => ?_
          · exact V.subL.cons (V.sub.refl _) (V.subL.cons (V.sub.nil _) V.subL.nil)
          subst hr
          simp -dsimp [h1, h3, hh]
        · simp -dsimp [↓callb_fn, h1, h3, h7, hh, hMl, hn, hMt, Con.cells, vTerms, vInts, vIntss]
          refine DP.mono hgo fun r hr => ?_
          subst hr
          simp -dsimp [h1, h3, hh]
  clear h1 h2 h3
  rintro ⟨sl, hp, bs⟩ ⟨h1, h3, hcase⟩
  exact own_rest c values other hc hv ho hF hvl is his _ h1 h3 hcase
end Go.Abs.G

/- A state told otherwise; results told otherwise; nil or not. -/
namespace Go.Abs
set_option linter.unusedVariables false

section
variable {w : World} {β : Nat → Hd} {F : Nat → Prop} {H : Heap}

/-- An object's cells told otherwise. -/
theorem adv_cells {id : Nat} {refs refs' : List Nat} {rows rows' : List (List V)} (hk : HOK w.heap H β F) (hid : H[id]? = some (.mem false refs rows)) (hl : rows'.length = rows.length)
    (hrow : ∀ (i : Nat) (row' : List V), rows'[i]? = some row' → ∃ row, rows[i]? = some row ∧ row.length = row'.length ∧ ∀ (j : Nat) (x' : V), row'[j]? = some x' → ∃ x, row[j]? = some x ∧ ∀ v, RV ((cx w.heap H β F).only refs) v x → RV ((cx w.heap H β F).only refs') v x') :
    Adv F w H β w (H.set id (.mem false refs' rows')) β := by
  have hupd : upd β id (β id) = β := by funext k; unfold upd; split <;> simp_all
  obtain ⟨h1, h2, h3⟩ := hk.turn (hp' := w.heap) (o' := .mem false refs' rows') (h' := β id) hid (Nat.le_refl _) (fun _ _ _ => rfl)
    (fun b hb => by unfold ownsB at hb ⊢; rw [get_set hid, upd_same] at hb; rw [hid]; exact .inl hb)
    (by simp) (fun g' hg _ => by
      left; unfold hdOf at hg ⊢; rw [get_set hid, upd_same] at hg; rw [hid]; simp only at hg ⊢; rw [← hl]; exact hg)
    (fun hle => by
      rcases hk.ro id _ hid with hr | ⟨q1, q2, q3, q4, q5, cs, E, fr, q6, q7, q8, q9⟩
      · exact .inl ⟨hr.1, List.length_eq_zero_iff.1 (by rw [hl, hr.2.1]; rfl), hr.2.2⟩
      · refine .inr ⟨q1, by rw [hl]; exact q2, by rw [hl]; exact q3, fun i row' hi => ?_, by simp, cs, E, fr, q6, q7, q8, fun i row' hi hlo j x' hj => ?_⟩
        · obtain ⟨row, a1, a2, _⟩ := hrow i row' hi
          rw [← a2]; exact q4 i row a1
        · obtain ⟨row, a1, a2, a3⟩ := hrow i row' hi
          obtain ⟨x, b1, b2⟩ := a3 j x' hj
          obtain ⟨v, e1, e2, e3⟩ := q9 i row a1 hlo j x b1
          exact ⟨v, e1, e2, (b2 v e3).mono (hle.only _)⟩)
  rw [hupd] at h1 h2
  exact ⟨h1, h2, .refl _ _⟩
end

theorem fz_len (l : List Nat) : ∀ (H : Heap), (H.fz l).length = H.length := by
  induction l with
  | nil => intro H; rfl
  | cons i l ih => intro H; simp [Heap.fz, ih]

theorem getD_fz (l : List Nat) (H : Heap) (k : Nat) : (H.fz l).getD k .dead = if k ∈ l then ((H.getD k .dead).fz) else H.getD k .dead := by
  simp only [List.getD, Heap.fz_get]
  cases H[k]? with
  | none => simp [O.fz]
  | some o => simp only [Option.map_some, Option.getD_some]
theorem rows_fz (l : List Nat) (H : Heap) (k : Nat) : ((H.fz l).getD k .dead).rows = (H.getD k .dead).rows := by
  rw [getD_fz]; split
  · generalize H.getD k .dead = o
    cases o <;> rfl
  · rfl
theorem refs_fz (l : List Nat) (H : Heap) (k : Nat) : ((H.fz l).getD k .dead).refs = (H.getD k .dead).refs := by
  rw [getD_fz]; split
  · generalize H.getD k .dead = o
    cases o <;> rfl
  · rfl
theorem ents_fz (l : List Nat) (H : Heap) (k : Nat) : ((H.fz l).getD k .dead).ents = (H.getD k .dead).ents := by
  rw [getD_fz]; split
  · generalize H.getD k .dead = o
    cases o <;> rfl
  · rfl
theorem isMem_fz (l : List Nat) (H : Heap) (k : Nat) : ((H.fz l).getD k .dead).isMem = (H.getD k .dead).isMem := by
  rw [getD_fz]; split
  · generalize H.getD k .dead = o
    cases o <;> rfl
  · rfl
theorem isMap_fz (l : List Nat) (H : Heap) (k : Nat) : ((H.fz l).getD k .dead).isMap = (H.getD k .dead).isMap := by
  rw [getD_fz]; split
  · generalize H.getD k .dead = o
    cases o <;> rfl
  · rfl
theorem fz_fz (l : List Nat) (H : Heap) : (H.fz l).fz l = H.fz l := by
  apply List.ext_getElem?
  intro k
  rw [Heap.fz_get, Heap.fz_get]
  cases H[k]? with
  | none => rfl
  | some o =>
    simp only [Option.map_some]
    split
    · rw [fz_idem]
    · rfl

mutual
theorem V.fz_fz {l : List Nat} {H : Heap} : ∀ (x : V), x.fz (H.fz l) = x.fz H
  | .any | .a _ | .ref .. | .view .. | .mview _ | .nul _ => rfl
  | .ptr .. => by simp only [V.fz]; rw [rows_fz]
  | .own .. => by simp only [V.fz]; rw [rows_fz]
  | .mp _ => by simp only [V.fz]; rw [ents_fz]
  | .agg cs => by simp only [V.fz]; rw [V.fzL_fz cs]
  | .tup cs => by simp only [V.fz]; rw [V.fzL_fz cs]
  | .fn g fs cs => by simp only [V.fz]; rw [V.fzL_fz fs, V.fzL_fz cs]
  | .ifc t x => by simp only [V.fz]; rw [V.fz_fz x]
theorem V.fzL_fz {l : List Nat} {H : Heap} : ∀ (xs : List V), V.fzL (H.fz l) xs = V.fzL H xs
  | [] => rfl
  | x :: xs => by simp only [V.fzL]; rw [V.fz_fz x, V.fzL_fz xs]
end
mutual
theorem V.fzP_fz {l : List Nat} {H : Heap} : ∀ (x : V), x.fzP H → x.fzP (H.fz l)
  | .any, h | .a _, h | .ref .., h | .view .., h | .mview _, h | .nul _, h => h
  | .ptr .., h => by simp only [V.fzP] at h ⊢; rw [rows_fz, refs_fz, isMem_fz]; exact h
  | .own .., h => by simp only [V.fzP] at h ⊢; rw [rows_fz, refs_fz, isMem_fz]; exact h
  | .mp _, h => by simp only [V.fzP] at h ⊢; rw [refs_fz, isMap_fz]; exact h
  | .agg cs, h => by simp only [V.fzP] at h ⊢; exact V.fzPL_fz cs h
  | .tup cs, h => by simp only [V.fzP] at h ⊢; exact V.fzPL_fz cs h
  | .fn g fs cs, h => by simp only [V.fzP] at h ⊢; exact ⟨V.fzPL_fz fs h.1, V.fzPL_fz cs h.2⟩
  | .ifc t x, h => by simp only [V.fzP] at h ⊢; exact V.fzP_fz x h
theorem V.fzPL_fz {l : List Nat} {H : Heap} : ∀ (xs : List V), V.fzPL H xs → V.fzPL (H.fz l) xs
  | [], h => h
  | x :: xs, h => by simp only [V.fzPL] at h ⊢; exact ⟨V.fzP_fz x h.1, V.fzPL_fz xs h.2⟩
end

/-- What a cell holds is frozen. -/
theorem Weak.frzc {st : St} {id i j : Nat} {refs refs' : List Nat} {rows : List (List V)} {row : List V} {x : V} (hid : st.hp[id]? = some (.mem false refs rows)) (hrow : rows[i]? = some row) (hx : row[j]? = some x) (hp : x.fzP st.hp) (hni : id ∉ x.ids)
    (hrefs : ∀ (i' : Nat) (row' : List V), rows[i']? = some row' → ∀ (j' : Nat) (y : V), row'[j']? = some y → (i' = i ∧ j' = j) ∨ ∀ k ∈ y.ids, k ∈ refs') :
    Weak st { st with hp := (st.hp.fz x.ids).set id (.mem false refs' (rows.set i (row.set j (x.fz st.hp)))) } := by
  refine ⟨rfl, fun k hk => ?_, by simp [fz_len], fun w β F N a hR => ?_⟩
  · show ((st.hp.fz x.ids).set id _)[k]? = _
    have hne : k ≠ id := by rintro rfl; rw [hid] at hk; simp at hk
    rw [getElem?_set_ne' hne, Heap.fz_get, hk]
    simp only [Option.map_some, Option.some.injEq]
    split <;> rfl
  · have hk := hR.hok
    have a1 := adv_fzL (F := F) (w := w) (β := β) x.ids hk
    have hid' : (st.hp.fz x.ids)[id]? = some (.mem false refs rows) := by
      rw [Heap.fz_get, hid]; simp [hni]
    have a2 := adv_cells (refs' := refs') (rows' := rows.set i (row.set j (x.fz st.hp))) a1.hok hid' (by simp) (fun i' row' hi' => by
      by_cases e : i = i'
      · subst e
        have hlt := lt_of_get hrow
        rw [List.getElem?_set_self hlt] at hi'
        injection hi' with hi'
        subst hi'
        refine ⟨row, hrow, by simp, fun j' x' hj' => ?_⟩
        by_cases ej : j = j'
        · subst ej
          rw [List.getElem?_set_self (lt_of_get hx)] at hj'
          injection hj' with hj'
          subst hj'
          refine ⟨x, hx, fun v hv => ?_⟩
          have hz := RV.fz (l := x.ids) a1.hok hv.up rfl (V.fzP_fz x hp) fun _ h => h
          rw [fz_fz, V.fz_fz] at hz
          exact hz.mono ⟨Nat.le_refl _, fun _ _ hn => ⟨rfl, hn⟩, fun k hl => by simp [Cx.only] at hl, fun _ _ _ e => .inl e⟩
        · rw [List.getElem?_set_ne ej] at hj'
          refine ⟨x', hj', fun v hv => ?_⟩
          rcases hrefs i row hrow j' x' hj' with ⟨_, e⟩ | h
          · exact absurd e.symm ej
          · have hv' := hv.onlyOf refs' h
            exact hv'.mono ⟨Nat.le_refl _, fun _ _ hn => ⟨rfl, hn⟩, fun k hl => ⟨hl.1, hl.2.2⟩, fun _ _ _ e => .inl e⟩
      · rw [List.getElem?_set_ne e] at hi'
        refine ⟨row', hi', rfl, fun j' x' hj' => ⟨x', hj', fun v hv => ?_⟩⟩
        rcases hrefs i' row' hi' j' x' hj' with ⟨e', _⟩ | h
        · exact absurd e'.symm e
        · have hv' := hv.onlyOf refs' h
          exact hv'.mono ⟨Nat.le_refl _, fun _ _ hn => ⟨rfl, hn⟩, fun k hl => ⟨hl.1, hl.2.2⟩, fun _ _ _ e => .inl e⟩)
    have adv := a1.trans a2
    exact ⟨β, adv, hR.adv adv⟩

/-- A cell is told otherwise. -/
theorem Weak.cellsub {st : St} {id i j : Nat} {refs refs' : List Nat} {rows : List (List V)} {row : List V} {x z : V} (hid : st.hp[id]? = some (.mem false refs rows)) (hrow : rows[i]? = some row) (hx : row[j]? = some x) (hs : x.sub z) (hz : z.ids = [])
    (hrefs : ∀ (i' : Nat) (row' : List V), rows[i']? = some row' → ∀ (j' : Nat) (y : V), row'[j']? = some y → (i' = i ∧ j' = j) ∨ ∀ k ∈ y.ids, k ∈ refs') :
    Weak st { st with hp := st.hp.set id (.mem false refs' (rows.set i (row.set j z))) } := by
  refine ⟨rfl, fun k hk => ?_, by simp, fun w β F N a hR => ?_⟩
  · show (st.hp.set id _)[k]? = _
    have hne : k ≠ id := by rintro rfl; rw [hid] at hk; simp at hk
    rw [getElem?_set_ne' hne]; exact hk
  · have hk := hR.hok
    have only : ∀ {v : Value} {y : V}, RV ((cx w.heap st.hp β F).only refs) v y → (∀ k ∈ y.ids, k ∈ refs') → RV ((cx w.heap st.hp β F).only refs') v y := fun hv h =>
      (hv.onlyOf refs' h).mono ⟨Nat.le_refl _, fun _ _ hn => ⟨rfl, hn⟩, fun k hl => ⟨hl.1, hl.2.2⟩, fun _ _ _ e => .inl e⟩
    have a2 := adv_cells (refs' := refs') (rows' := rows.set i (row.set j z)) hk hid (by simp) (fun i' row' hi' => by
      by_cases e : i = i'
      · subst e
        rw [List.getElem?_set_self (lt_of_get hrow)] at hi'
        injection hi' with hi'
        subst hi'
        refine ⟨row, hrow, by simp, fun j' x' hj' => ?_⟩
        by_cases ej : j = j'
        · subst ej
          rw [List.getElem?_set_self (lt_of_get hx)] at hj'
          injection hj' with hj'
          subst hj'
          exact ⟨x, hx, fun v hv => only (hs _ _ hv) (by rw [hz]; simp)⟩
        · rw [List.getElem?_set_ne ej] at hj'
          refine ⟨x', hj', fun v hv => ?_⟩
          rcases hrefs i row hrow j' x' hj' with ⟨_, e⟩ | h
          · exact absurd e.symm ej
          · exact only hv h
      · rw [List.getElem?_set_ne e] at hi'
        refine ⟨row', hi', rfl, fun j' x' hj' => ⟨x', hj', fun v hv => ?_⟩⟩
        rcases hrefs i' row' hi' j' x' hj' with ⟨e', _⟩ | h
        · exact absurd e'.symm e
        · exact only hv h)
    exact ⟨β, a2, hR.adv a2⟩

theorem Weak.refl (st : St) : Weak st st := ⟨rfl, fun _ h => h, Nat.le_refl _, fun w β F N a hR => ⟨β, ⟨hR.hok, .refl _, .refl _ _⟩, hR⟩⟩

/-! Results told otherwise; nil or not. -/

theorem DC.weak {P : Program} {f : FuncId} {xs : List V} {H : Heap} {Q Q' : V → Heap → Prop} (h : DC P f xs H Q) (hq : ∀ x H', Q x H' → ∃ y, x.sub y ∧ Q' y H') : DC P f xs H Q' :=
  fun w β F vs hk hr => (h w β F vs hk hr).mono fun e w' ⟨r, x, H', β', h1, h2, h3, h4⟩ => by
    obtain ⟨y, hy, hQ⟩ := hq x H' h4
    exact ⟨r, y, H', β', h1, h2, hy _ _ h3, hQ⟩

/-- A result without objects, told otherwise. -/
theorem DP.weak {P : Program} {f : FuncId} {xs : List V} {Q Q' : V → Prop} (h : DP P f xs Q) (hq : ∀ x, Q x → ∃ y, x.sub y ∧ (∀ H, y.fzP H ∧ y.fz H = y) ∧ Q' y) : DP P f xs Q' := by
  intro w β F vs hk hr
  refine (h w β F vs hk hr).mono fun e w' ⟨v, x, H', β', h1, h2, h3, g1, h4⟩ => ?_
  have adv := adv_fzL (F := F) (w := w') (β := β') x.ids h2.hok
  have hz := RV.fz (l := x.ids) h2.hok h3 rfl g1 fun i hi => hi
  obtain ⟨y, y1, y2, y3⟩ := hq _ h4
  exact ⟨v, y, H'.fz x.ids, β', h1, h2.trans adv, (y1 _ _ hz).up, (y2 _).1, by rw [(y2 _).2]; exact y3⟩

theorem DC.view_nil {P : Program} {f : FuncId} {es : Nat} {H : Heap} {Q : V → Heap → Prop} (h1 : DC P f [.a (.slice none 0 0)] H Q) (h2 : ∀ ad c, DC P f [.a (.slice (some ad) 0 c)] H Q) : DC P f [.view es []] H Q := by
  intro w β F vs hk hr
  have hs : vs.size = 1 := hr.1
  have hv := hr.2 0 (vs[0]'(by omega)) (.view es []) (by simp [hs]) rfl
  generalize e : vs[0]'(by omega) = v at hv
  have hvs : vs = #[v] := by
    apply Array.ext
    · simp [hs]
    · intro i h1 h2
      have : i = 0 := by simp at h2; omega
      subst this
      simpa using e
  subst hvs
  have one : ∀ u, RVs (cx w.heap H β F) #[u] [.a u] := fun u => ⟨rfl, fun i v x h1 h2 => by
    cases i with
    | zero => simp at h1 h2; subst h1; subst h2; exact .a
    | succ i => simp at h2⟩
  cases hv with
  | nilv => exact h1 w β F _ hk (one _)
  | view g hb hcap hlen hg hrr => exact h2 _ _ w β F _ hk (one _)

theorem V.sub.nul (es es' : Nat) : (V.nul es).sub (.view es' []) := fun c v h => by
  cases h with
  | nul =>
    rename_i ad
    cases ad with
    | none => exact .nilv
    | some ad =>
      have := RV.view (c := c) (es := es') (rows := []) (ad := ad) (cap := 0) (fun _ _ => undef) (fun h => absurd rfl h) (Nat.le_refl _) (fun i row h => by simp at h) (fun i row h => by simp at h) (fun i row h => by simp at h)
      exact this
end Go.Abs

namespace Go.Abs.G
open Go.Proofs
set_option linter.unusedVariables false
set_option linter.unusedSimpArgs false

theorem clone_int (rows : List (List V)) (hb : (rows.length : Int) * 8 ≤ 140737488355328) : DC Try.prog slices_Clone_Lint_int.id [.view 1 rows] [] (fun r H => (rows = [] ∧ ((r = .a (.slice none 0 0) ∧ H = []) ∨ (r = .nul 1 ∧ H = [.res, .res]))) ∨ (rows ≠ [] ∧ r = .own 1 1 0 rows.length rows.length ∧ H = [.res, .mem false [] rows])) := by
  by_cases hr : rows = []
  · subst hr
    refine DC.view_nil ?_ fun ad c => ?_
    · refine DC.of slices_Clone_Lint_int.ok (by simp) ?_
      simp -dsimp [slices_Clone_Lint_int.ir, slices_Clone_Lint_int.rs]
    · refine DC.of slices_Clone_Lint_int.ok (by simp) ?_
      simp -dsimp [slices_Clone_Lint_int.ir, slices_Clone_Lint_int.rs]
  · refine DC.of slices_Clone_Lint_int.ok (by simp) ?_
    have hl : ¬ (rows.length : Int) = 0 := by
      have := List.length_pos_iff.2 hr
      omega
    simp -dsimp [slices_Clone_Lint_int.ir, slices_Clone_Lint_int.rs, hr, hl, hb]

theorem clone_int_pf (rows : List (List V)) (hb : (rows.length : Int) * 8 ≤ 140737488355328) : Pf Try.prog slices_Clone_Lint_int.id [.view 1 rows] (.view 1 rows) := by
  refine DP.weak (Q := fun x => x.sub (.view 1 rows)) (DC.mono (clone_int rows hb) fun r H h => ?_) fun x hx => ⟨_, hx, fun H => ⟨trivial, rfl⟩, rfl⟩
  rcases h with ⟨rfl, ⟨rfl, rfl⟩ | ⟨rfl, rfl⟩⟩ | ⟨h, rfl, rfl⟩
  · exact ⟨trivial, V.sub.nil _⟩
  · exact ⟨trivial, V.sub.nul _ _⟩
  · refine ⟨by simp, ?_⟩
    simp
    exact V.sub.refl _

theorem clone_ints (rows : List (List V)) (hb : (rows.length : Int) * 24 ≤ 140737488355328) : DC Try.prog slices_Clone_LLint_Lint.id [.view 1 rows] [] (fun r H => (rows = [] ∧ ((r = .a (.slice none 0 0) ∧ H = []) ∨ (r = .nul 1 ∧ H = [.res, .res]))) ∨ (rows ≠ [] ∧ r = .own 1 1 0 rows.length rows.length ∧ H = [.res, .mem false [] rows])) := by
  by_cases hr : rows = []
  · subst hr
    refine DC.view_nil ?_ fun ad c => ?_
    · refine DC.of slices_Clone_LLint_Lint.ok (by simp) ?_
      simp -dsimp [slices_Clone_LLint_Lint.ir, slices_Clone_LLint_Lint.rs]
    · refine DC.of slices_Clone_LLint_Lint.ok (by simp) ?_
      simp -dsimp [slices_Clone_LLint_Lint.ir, slices_Clone_LLint_Lint.rs]
  · refine DC.of slices_Clone_LLint_Lint.ok (by simp) ?_
    have hl : ¬ (rows.length : Int) = 0 := by
      have := List.length_pos_iff.2 hr
      omega
    simp -dsimp [slices_Clone_LLint_Lint.ir, slices_Clone_LLint_Lint.rs, hr, hl, hb]

theorem clone_ints_pf (rows : List (List V)) (hb : (rows.length : Int) * 24 ≤ 140737488355328) : Pf Try.prog slices_Clone_LLint_Lint.id [.view 1 rows] (.view 1 rows) := by
  refine DP.weak (Q := fun x => x.sub (.view 1 rows)) (DC.mono (clone_ints rows hb) fun r H h => ?_) fun x hx => ⟨_, hx, fun H => ⟨trivial, rfl⟩, rfl⟩
  rcases h with ⟨rfl, ⟨rfl, rfl⟩ | ⟨rfl, rfl⟩⟩ | ⟨h, rfl, rfl⟩
  · exact ⟨trivial, V.sub.nil _⟩
  · exact ⟨trivial, V.sub.nul _ _⟩
  · refine ⟨by simp, ?_⟩
    simp
    exact V.sub.refl _

theorem clone_term (rows : List (List V)) (hb : (rows.length : Int) * 16 ≤ 140737488355328) : DC Try.prog slices_Clone_Lapi_Term_api_Term.id [.view 2 rows] [] (fun r H => (rows = [] ∧ ((r = .a (.slice none 0 0) ∧ H = []) ∨ (r = .nul 2 ∧ H = [.res, .res]))) ∨ (rows ≠ [] ∧ r = .own 1 2 0 rows.length rows.length ∧ H = [.res, .mem false [] rows])) := by
  by_cases hr : rows = []
  · subst hr
    refine DC.view_nil ?_ fun ad c => ?_
    · refine DC.of slices_Clone_Lapi_Term_api_Term.ok (by simp) ?_
      simp -dsimp [slices_Clone_Lapi_Term_api_Term.ir, slices_Clone_Lapi_Term_api_Term.rs]
    · refine DC.of slices_Clone_Lapi_Term_api_Term.ok (by simp) ?_
      simp -dsimp [slices_Clone_Lapi_Term_api_Term.ir, slices_Clone_Lapi_Term_api_Term.rs]
  · refine DC.of slices_Clone_Lapi_Term_api_Term.ok (by simp) ?_
    have hl : ¬ (rows.length : Int) = 0 := by
      have := List.length_pos_iff.2 hr
      omega
    simp -dsimp [slices_Clone_Lapi_Term_api_Term.ir, slices_Clone_Lapi_Term_api_Term.rs, hr, hl, hb]

theorem clone_term_pf (rows : List (List V)) (hb : (rows.length : Int) * 16 ≤ 140737488355328) : Pf Try.prog slices_Clone_Lapi_Term_api_Term.id [.view 2 rows] (.view 2 rows) := by
  refine DP.weak (Q := fun x => x.sub (.view 2 rows)) (DC.mono (clone_term rows hb) fun r H h => ?_) fun x hx => ⟨_, hx, fun H => ⟨trivial, rfl⟩, rfl⟩
  rcases h with ⟨rfl, ⟨rfl, rfl⟩ | ⟨rfl, rfl⟩⟩ | ⟨h, rfl, rfl⟩
  · exact ⟨trivial, V.sub.nil _⟩
  · exact ⟨trivial, V.sub.nul _ _⟩
  · refine ⟨by simp, ?_⟩
    simp
    exact V.sub.refl _

theorem clone_var (rows : List (List V)) (hb : (rows.length : Int) * 32 ≤ 140737488355328) : DC Try.prog slices_Clone_Lapi_Var_api_Var.id [.view 3 rows] [] (fun r H => (rows = [] ∧ ((r = .a (.slice none 0 0) ∧ H = []) ∨ (r = .nul 3 ∧ H = [.res, .res]))) ∨ (rows ≠ [] ∧ r = .own 1 3 0 rows.length rows.length ∧ H = [.res, .mem false [] rows])) := by
  by_cases hr : rows = []
  · subst hr
    refine DC.view_nil ?_ fun ad c => ?_
    · refine DC.of slices_Clone_Lapi_Var_api_Var.ok (by simp) ?_
      simp -dsimp [slices_Clone_Lapi_Var_api_Var.ir, slices_Clone_Lapi_Var_api_Var.rs]
    · refine DC.of slices_Clone_Lapi_Var_api_Var.ok (by simp) ?_
      simp -dsimp [slices_Clone_Lapi_Var_api_Var.ir, slices_Clone_Lapi_Var_api_Var.rs]
  · refine DC.of slices_Clone_Lapi_Var_api_Var.ok (by simp) ?_
    have hl : ¬ (rows.length : Int) = 0 := by
      have := List.length_pos_iff.2 hr
      omega
    simp -dsimp [slices_Clone_Lapi_Var_api_Var.ir, slices_Clone_Lapi_Var_api_Var.rs, hr, hl, hb]

theorem clone_var_pf (rows : List (List V)) (hb : (rows.length : Int) * 32 ≤ 140737488355328) : Pf Try.prog slices_Clone_Lapi_Var_api_Var.id [.view 3 rows] (.view 3 rows) := by
  refine DP.weak (Q := fun x => x.sub (.view 3 rows)) (DC.mono (clone_var rows hb) fun r H h => ?_) fun x hx => ⟨_, hx, fun H => ⟨trivial, rfl⟩, rfl⟩
  rcases h with ⟨rfl, ⟨rfl, rfl⟩ | ⟨rfl, rfl⟩⟩ | ⟨h, rfl, rfl⟩
  · exact ⟨trivial, V.sub.nil _⟩
  · exact ⟨trivial, V.sub.nul _ _⟩
  · refine ⟨by simp, ?_⟩
    simp
    exact V.sub.refl _

theorem clone_con (rows : List (List V)) (hb : (rows.length : Int) * 144 ≤ 140737488355328) : DC Try.prog slices_Clone_Lapi_Con_api_Con.id [.view 10 rows] [] (fun r H => (rows = [] ∧ ((r = .a (.slice none 0 0) ∧ H = []) ∨ (r = .nul 10 ∧ H = [.res, .res]))) ∨ (rows ≠ [] ∧ r = .own 1 10 0 rows.length rows.length ∧ H = [.res, .mem false [] rows])) := by
  by_cases hr : rows = []
  · subst hr
    refine DC.view_nil ?_ fun ad c => ?_
    · refine DC.of slices_Clone_Lapi_Con_api_Con.ok (by simp) ?_
      simp -dsimp [slices_Clone_Lapi_Con_api_Con.ir, slices_Clone_Lapi_Con_api_Con.rs]
    · refine DC.of slices_Clone_Lapi_Con_api_Con.ok (by simp) ?_
      simp -dsimp [slices_Clone_Lapi_Con_api_Con.ir, slices_Clone_Lapi_Con_api_Con.rs]
  · refine DC.of slices_Clone_Lapi_Con_api_Con.ok (by simp) ?_
    have hl : ¬ (rows.length : Int) = 0 := by
      have := List.length_pos_iff.2 hr
      omega
    simp -dsimp [slices_Clone_Lapi_Con_api_Con.ir, slices_Clone_Lapi_Con_api_Con.rs, hr, hl, hb]

theorem clone_con_pf (rows : List (List V)) (hb : (rows.length : Int) * 144 ≤ 140737488355328) : Pf Try.prog slices_Clone_Lapi_Con_api_Con.id [.view 10 rows] (.view 10 rows) := by
  refine DP.weak (Q := fun x => x.sub (.view 10 rows)) (DC.mono (clone_con rows hb) fun r H h => ?_) fun x hx => ⟨_, hx, fun H => ⟨trivial, rfl⟩, rfl⟩
  rcases h with ⟨rfl, ⟨rfl, rfl⟩ | ⟨rfl, rfl⟩⟩ | ⟨h, rfl, rfl⟩
  · exact ⟨trivial, V.sub.nil _⟩
  · exact ⟨trivial, V.sub.nul _ _⟩
  · refine ⟨by simp, ?_⟩
    simp
    exact V.sub.refl _
end Go.Abs.G

namespace Go.Abs.G
open Go.Proofs
set_option linter.unusedVariables false
set_option linter.unusedSimpArgs false

abbrev nilV : V := .a (.slice none 0 0)
abbrev mdl (m : Model) (x : V) : List V := [.view 3 (m.vars.map Var.cells), x, .bool m.hasGoal, .view 2 (m.goal.map Term.cells)]
abbrev conC (c : Con) (x : V) : List V := [V.i c.kind, V.i c.op, .view 2 (c.terms.map Term.cells), V.i c.k, V.i c.v, V.i c.x, V.i c.y, .view 1 (c.xs.map fun n => [V.i n]), .view 1 (c.table.map fun n => [V.i n]), x]
abbrev rowsV (c : Con) : V := .view 1 (c.rows.map rowI)
theorem conC_cells (c : Con) : c.cells = conC c (rowsV c) := rfl

/-- The rows' clone, put into place. -/
theorem copy_spec (m : Model) (hf : FewM m) : DC Try.prog model_Copy.id [.agg m.cells] [] (fun r H =>
    (m.cons = [] ∧ ∃ x a b, (x = nilV ∨ x = .nul 10) ∧ r = .agg (mdl m x) ∧ (H = [a, b] ∨ H = [a, b, .res, .res])) ∨
    (m.cons ≠ [] ∧ ∃ a b, r = .agg (mdl m (.own 3 10 0 m.cons.length m.cons.length)) ∧ H = [a, b, .res, .mem false [] (m.cons.map Con.cells)])) := by
  have b1 : ((m.vars.map Var.cells).length : Int) * 32 ≤ 140737488355328 := by have := hf.vars; simp; omega
  have b2 : ((m.goal.map Term.cells).length : Int) * 16 ≤ 140737488355328 := by have := hf.goal; simp; omega
  have b3 : ((m.cons.map Con.cells).length : Int) * 144 ≤ 140737488355328 := by have := hf.cons; simp; omega
  refine DC.of model_Copy.ok (by simp) ?_
  unfold model_Copy.ir
  refine vc_cut (fun s => gt s.sl 1 = .ptr 0 1 0 0 ∧ gt s.sl 2 = .ptr 1 1 0 0 ∧ s.hp = [.mem false [] [m.cells], .mem false [] [[nilV, nilV, .bool false, nilV]]]) (by simp [Model.cells, vVars, vCons, vTerms]) ?_
  rintro ⟨sl, hp, bs⟩ ⟨h1, h2, rfl⟩
  refine vc_cut (fun s => gt s.sl 1 = .ptr 0 1 0 0 ∧ gt s.sl 2 = .ptr 1 1 0 0 ∧
    ((m.cons = [] ∧ (s.hp = [.mem false [] [mdl m nilV], .mem false [] [[nilV, nilV, .bool false, nilV]]] ∨ s.hp = [.mem false [] [mdl m (.nul 10)], .mem false [] [[nilV, nilV, .bool false, nilV]], .res, .res])) ∨
     (m.cons ≠ [] ∧ s.hp = [.mem false [3] [mdl m (.own 3 10 0 m.cons.length m.cons.length)], .mem false [] [[nilV, nilV, .bool false, nilV]], .res, .mem false [] (m.cons.map Con.cells)]))) ?_ ?_
  · simp -dsimp [↓call_f, ↓callo_fn, h1, h2, Model.cells, vVars, vCons, vTerms]
    refine (clone_var_pf _ b1).use ?_
    simp -dsimp [↓call_f, ↓callo_fn, h1, h2, Model.cells, vVars, vCons, vTerms]
    refine (clone_term_pf _ b2).use ?_
    simp -dsimp [↓call_f, ↓callo_fn, h1, h2, Model.cells, vVars, vCons, vTerms]
    refine DC.mono (clone_con _ b3) fun r H h => ?_
    rcases h with ⟨h0, ⟨rfl, rfl⟩ | ⟨rfl, rfl⟩⟩ | ⟨h0, rfl, rfl⟩
    · have h0 : m.cons = [] := by simpa using h0
      simp -dsimp [h1, h2, h0, Model.cells, vVars, vCons, vTerms]
    · have h0 : m.cons = [] := by simpa using h0
      simp -dsimp [h1, h2, h0, Model.cells, vVars, vCons, vTerms]
    · have h0 : m.cons ≠ [] := by simpa using h0
      simp -dsimp [h1, h2, h0, Model.cells, vVars, vCons, vTerms]
      exact fun c _ => renL_none _ rfl
  clear h1 h2
  rintro s ⟨h1, h2, hcase⟩
  obtain ⟨n, hn⟩ : ∃ n, m.cons.length = n := ⟨_, rfl⟩
  have hn2 : n ≤ 20000 := hn ▸ hf.cons
  rw [hn] at hcase ⊢
  obtain ⟨hp0, hhp0⟩ : ∃ h, s.hp = h := ⟨_, rfl⟩
  rw [hhp0] at hcase
  have hlen : hp0.length ≤ 4 := by rcases hcase with ⟨_, e | e⟩ | ⟨_, e⟩ <;> rw [e] <;> simp
  refine vc_cut (fun s => gt s.sl 2 = .ptr 1 1 0 0 ∧ gt s.sl 1 = .ptr 0 1 0 0 ∧ s.hp = hp0) ?_ ?_
  · refine vc_cut (fun s => gt s.sl 1 = .ptr 0 1 0 0 ∧ gt s.sl 2 = .ptr 1 1 0 0 ∧ gt s.sl 20 = V.i n ∧ gt s.sl 21 = V.i 0 ∧ s.hp = hp0) ?_ ?_
    · rcases hcase with ⟨h0, e | e⟩ | ⟨h0, e⟩
      · have hn0 : n = 0 := by rw [← hn, h0]; rfl
        simp -dsimp [h1, h2, hhp0, e, hn0]
      · have hn0 : n = 0 := by rw [← hn, h0]; rfl
        simp -dsimp [h1, h2, hhp0, e, hn0]
      · simp -dsimp [h1, h2, hhp0, e, hn]
    clear h1 h2
    rintro s ⟨h1, h2, h20, h21, he⟩
    simp -dsimp [↓loop_f, h1, h2, h20, h21, he]
    refine WI.mono (Q := fun e s => e = .exit 0 ∧ gt s.sl 2 = .ptr 1 1 0 0 ∧ gt s.sl 1 = .ptr 0 1 0 0 ∧ s.hp = hp0)
      (WI.loop 4 (by simpa [he] using hlen) (fun s => ∃ i, i ≤ n ∧ gt s.sl 1 = .ptr 0 1 0 0 ∧ gt s.sl 2 = .ptr 1 1 0 0 ∧ gt s.sl 20 = V.i n ∧ gt s.sl 21 = V.i i ∧ s.hp = hp0) (fun s => (n - (gt s.sl 21).num).toNat) ?_ ?_) ?_
    · exact ⟨0, by omega, by simp [h1], by simp [h2], by simp [h20], by simp [h21], by simp [he]⟩
    · clear h1 h2 h20 h21 he
      rintro s ⟨i, hi, h1, h2, h20, h21, he⟩
      by_cases hil : i < n
      · have h0 : m.cons ≠ [] := by rintro h; rw [h] at hn; simp at hn; omega
        have he3 : hp0 = [.mem false [3] [mdl m (.own 3 10 0 n n)], .mem false [] [[nilV, nilV, .bool false, nilV]], .res, .mem false [] (m.cons.map Con.cells)] := by
          rcases hcase with ⟨e, _⟩ | ⟨_, e⟩
          · exact absurd e h0
          · exact e
        have hw : IntKind.i64.wrap ((i : Int) + 1) = ((i + 1 : Nat) : Int) := by rw [wrap64] <;> omega
        have hil' : (i : Int) < n := by omega
        have hic : i < m.cons.length := by omega
        have g21 := h21
        obtain ⟨c, hc⟩ : ∃ c, m.cons[i] = c := ⟨_, rfl⟩
        have hfc : FewCon c := hc ▸ hf.con _ (List.getElem_mem hic)
        have k1 : ((c.terms.map Term.cells).length : Int) * 16 ≤ 140737488355328 := by have := hfc.terms; simp; omega
        have k2 : ((c.xs.map fun n => [V.i n]).length : Int) * 8 ≤ 140737488355328 := by have := hfc.xs; simp; omega
        have k3 : ((c.table.map fun n => [V.i n]).length : Int) * 8 ≤ 140737488355328 := by have := hfc.table; simp; omega
        have k4 : ((c.rows.map rowI).length : Int) * 24 ≤ 140737488355328 := by have := hfc.rows; simp; omega
        have hml : (m.cons.map Con.cells).length = n := by simp [hn]
        have hmi : (m.cons.map Con.cells)[i]? = some (conC c (rowsV c)) := by simp [hic, hc, conC_cells]
        obtain ⟨R, hR⟩ : ∃ R, m.cons.map Con.cells = R := ⟨_, rfl⟩
        rw [hR] at he3 hml hmi
        rw [he3] at he
        have hmi' : R[i]'(by omega) = conC c (rowsV c) := by rw [List.getElem?_eq_getElem (by omega)] at hmi; injection hmi
        unfold model_Copy.b0
        refine vc_cut (fun s => gt s.sl 1 = .ptr 0 1 0 0 ∧ gt s.sl 2 = .ptr 1 1 0 0 ∧ gt s.sl 20 = V.i n ∧ gt s.sl 21 = V.i i ∧ gt s.sl 22 = .bool true ∧ s.hp = [.mem false [3] [mdl m (.own 3 10 0 n n)], .mem false [] [[nilV, nilV, .bool false, nilV]], .res, .mem false [] R]) (by simp -dsimp [h1, h2, h20, h21, he, hil']) ?_
        clear h1 h2 h20 h21 he
        rintro s1 ⟨h1, h2, h20, h21, h22, he⟩
        refine vc_cut (fun s => gt s.sl 1 = .ptr 0 1 0 0 ∧ gt s.sl 2 = .ptr 1 1 0 0 ∧ gt s.sl 20 = V.i n ∧ gt s.sl 21 = V.i i ∧ s.hp = [.mem false [3] [mdl m (.own 3 10 0 n n)], .mem false [] [[nilV, nilV, .bool false, nilV]], .res, .mem false [] R]) (by simp -dsimp [h1, h2, h20, h21, h22, he]) ?_
        clear h1 h2 h20 h21 h22 he
        rintro s1 ⟨h1, h2, h20, h21, he⟩
        refine vc_cut (fun s => gt s.sl 1 = .ptr 0 1 0 0 ∧ gt s.sl 2 = .ptr 1 1 0 0 ∧ gt s.sl 20 = V.i n ∧ gt s.sl 21 = V.i i ∧ ∃ x tl, s.hp = [.mem false [3] [mdl m (.own 3 10 0 n n)], .mem false [] [[nilV, nilV, .bool false, nilV]], .res, .mem false (if c.rows = [] then [] else [5]) (R.set i (conC c x))] ++ tl ∧
            ((c.rows = [] ∧ (x = nilV ∨ x = .nul 1) ∧ (tl = [] ∨ tl = [.res, .res])) ∨ (c.rows ≠ [] ∧ x = .own 5 1 0 c.rows.length c.rows.length ∧ tl = [.res, .mem false [] (c.rows.map rowI)]))) (vc_block_of ?_) ?_
        · refine vc_cut (fun s => gt s.sl 1 = .ptr 0 1 0 0 ∧ gt s.sl 2 = .ptr 1 1 0 0 ∧ gt s.sl 20 = V.i n ∧ gt s.sl 21 = V.i i ∧ gt s.sl 3 = V.i i ∧ s.hp = [.mem false [3] [mdl m (.own 3 10 0 n n)], .mem false [] [[nilV, nilV, .bool false, nilV]], .res, .mem false [] R]) (by simp -dsimp [h1, h2, h20, h21, he]) ?_
          clear h1 h2 h20 h21 he
          rintro s1 ⟨h1, h2, h20, h21, h3, he⟩
          refine vc_cut (fun s => gt s.sl 1 = .ptr 0 1 0 0 ∧ gt s.sl 2 = .ptr 1 1 0 0 ∧ gt s.sl 20 = V.i n ∧ gt s.sl 21 = V.i i ∧ gt s.sl 4 = .ptr 3 n i 0 ∧ s.hp = [.mem false [3] [mdl m (.own 3 10 0 n n)], .mem false [] [[nilV, nilV, .bool false, nilV]], .res, .mem false [] R]) ?_ ?_
          · simp -dsimp [h1, h2, h3, h20, h21, he, hil, hml]
          clear h3 h1 h2 h20 h21 he
          rintro s1 ⟨h1, h2, h20, h21, h4, he⟩
          refine vc_cut (fun s => gt s.sl 1 = .ptr 0 1 0 0 ∧ gt s.sl 2 = .ptr 1 1 0 0 ∧ gt s.sl 20 = V.i n ∧ gt s.sl 21 = V.i i ∧ gt s.sl 4 = .ptr 3 n i 0 ∧ ∃ x tl, s.hp = [.mem false [3] [mdl m (.own 3 10 0 n n)], .mem false [] [[nilV, nilV, .bool false, nilV]], .res, .mem false (if c.rows = [] then [] else [5]) (R.set i (conC c x))] ++ tl ∧
            ((c.rows = [] ∧ (x = nilV ∨ x = .nul 1) ∧ (tl = [] ∨ tl = [.res, .res])) ∨ (c.rows ≠ [] ∧ x = .own 5 1 0 c.rows.length c.rows.length ∧ tl = [.res, .mem false [] (c.rows.map rowI)]))) ?_ ?_
          · simp -dsimp [↓call_f, ↓callo_fn, h1, h2, h20, h21, h4, he, hil, hml, hmi']
            refine (clone_term_pf _ k1).use ?_
            simp -dsimp [↓call_f, ↓callo_fn, h1, h2, h20, h21, h4, he, hil, hml, hmi']
            refine (clone_int_pf _ k2).use ?_
            simp -dsimp [↓call_f, ↓callo_fn, h1, h2, h20, h21, h4, he, hil, hml, hmi']
            refine (clone_int_pf _ k3).use ?_
            simp -dsimp [↓call_f, ↓callo_fn, h1, h2, h20, h21, h4, he, hil, hml, hmi']
            refine DC.mono (clone_ints _ k4) fun r H h => ?_
            rcases h with ⟨h0', ⟨rfl, rfl⟩ | ⟨rfl, rfl⟩⟩ | ⟨h0', rfl, rfl⟩
            · have h0' : c.rows = [] := by simpa using h0'
              simp -dsimp [h1, h2, h20, h21, h4, he, hil, hml, hmi', h0']
              exact ⟨_, _, ⟨rfl, rfl⟩, .inl rfl, .inl rfl⟩
            · have h0' : c.rows = [] := by simpa using h0'
              simp -dsimp [h1, h2, h20, h21, h4, he, hil, hml, hmi', h0']
              exact ⟨_, _, ⟨rfl, rfl⟩, .inr rfl, .inr rfl⟩
            · have h0' : c.rows ≠ [] := by simpa using h0'
              simp -dsimp [h1, h2, h20, h21, h4, he, hil, hml, hmi', h0']
              exact fun a _ => rfl
          clear h1 h2 h20 h21 h4 he
          rintro s1 ⟨h1, h2, h20, h21, h4, x, tl1, he, hcx⟩
          obtain ⟨rl, hrl⟩ : ∃ k, c.rows.length = k := ⟨_, rfl⟩
          have hrl2 : rl ≤ 20000 := hrl ▸ hfc.rows
          have hRi : (R.set i (conC c x))[i]? = some (conC c x) := by rw [List.getElem?_set_self (by omega)]
          have hlen6 : s1.hp.length ≤ 6 := by
            rw [he]
            rcases hcx with ⟨_, _, e | e⟩ | ⟨_, _, e⟩ <;> rw [e] <;> simp
          refine vc_cut (fun s => gt s.sl 1 = .ptr 0 1 0 0 ∧ gt s.sl 2 = .ptr 1 1 0 0 ∧ gt s.sl 20 = V.i n ∧ gt s.sl 21 = V.i i ∧ gt s.sl 4 = .ptr 3 n i 0 ∧ gt s.sl 64 = V.i rl ∧ gt s.sl 65 = V.i 0 ∧ s.hp = s1.hp) ?_ ?_
          · rcases hcx with ⟨h0', rfl | rfl, e⟩ | ⟨h0', rfl, e⟩
            · have : rl = 0 := by rw [← hrl, h0']; rfl
              subst this
              simp -dsimp [h1, h2, h20, h21, h4, he, hil, hml]
            · have : rl = 0 := by rw [← hrl, h0']; rfl
              subst this
              simp -dsimp [h1, h2, h20, h21, h4, he, hil, hml]
            · subst e
              simp -dsimp [h1, h2, h20, h21, h4, he, hil, hml, hrl]
          rintro s2 ⟨g1, g2, g20, g21', g4, g64, g65, ge⟩
          simp -dsimp [↓loop_f, g1, g2, g20, g21', g4, g64, g65]
          refine WI.mono (Q := fun e s => e = .exit 2 ∧ gt s.sl 1 = .ptr 0 1 0 0 ∧ gt s.sl 2 = .ptr 1 1 0 0 ∧ gt s.sl 20 = V.i n ∧ gt s.sl 21 = V.i i ∧ gt s.sl 4 = .ptr 3 n i 0 ∧ s.hp = s1.hp)
            (WI.loop 6 (by simpa [ge] using hlen6) (fun s => ∃ k, k ≤ rl ∧ gt s.sl 1 = .ptr 0 1 0 0 ∧ gt s.sl 2 = .ptr 1 1 0 0 ∧ gt s.sl 20 = V.i n ∧ gt s.sl 21 = V.i i ∧ gt s.sl 4 = .ptr 3 n i 0 ∧ gt s.sl 64 = V.i rl ∧ gt s.sl 65 = V.i k ∧ s.hp = s1.hp) (fun s => (rl - (gt s.sl 65).num).toNat) ?_ ?_) ?_
          · exact ⟨0, by omega, by simp [g1], by simp [g2], by simp [g20], by simp [g21'], by simp [g4], by simp [g64], by simp [g65], by simp [ge]⟩
          · clear g1 g2 g20 g21' g4 g64 g65 ge
            rintro s3 ⟨k, hk, g1, g2, g20, g21', g4, g64, g65, ge⟩
            by_cases hkl : k < rl
            · have hkc : k < c.rows.length := by omega
              have hkl' : (k : Int) < rl := by omega
              have hwk : IntKind.i64.wrap ((k : Int) + 1) = ((k + 1 : Nat) : Int) := by rw [wrap64] <;> omega
              have h0' : c.rows ≠ [] := by rintro e; rw [e] at hkc; simp at hkc
              obtain ⟨rfl, rfl⟩ : x = .own 5 1 0 c.rows.length c.rows.length ∧ tl1 = [.res, .mem false [] (c.rows.map rowI)] := by
                rcases hcx with ⟨e, _⟩ | ⟨_, e1, e2⟩
                · exact absurd e h0'
                · exact ⟨e1, e2⟩
              obtain ⟨r, hr⟩ : ∃ r, c.rows[k] = r := ⟨_, rfl⟩
              have kr : ((r.map fun n => [V.i n]).length : Int) * 8 ≤ 140737488355328 := by have := hfc.row r (hr ▸ List.getElem_mem hkc); simp; omega
              have hset : (c.rows.map rowI).set k (rowI r) = c.rows.map rowI := by
                have hk' : k < (c.rows.map rowI).length := by simp [hkc]
                have e : (c.rows.map rowI)[k] = rowI r := by simp [hr]
                rw [← e]; exact List.set_getElem_self hk'
              rw [he] at ge
              simp only [if_neg h0'] at ge
              simp -dsimp [↓call_f, model_Copy.b1, g1, g2, g20, g21', g4, g64, g65, ge, hkl, hkl', hkc, hil, hml, hr, hrl, vInts]
              refine (clone_int_pf _ kr).use ?_
              have hset' : (c.rows.map rowI).set k [V.view 1 (r.map fun n => [V.i n])] = c.rows.map rowI := hset
              simp -dsimp [g1, g2, g20, g21', g4, g64, g65, ge, hkl, hkc, hil, hml, hr, hrl, hwk, hset']
              refine ⟨⟨k + 1, by omega, by omega, ?_⟩, by omega⟩
              rw [he, if_neg h0', hrl]; rfl
            · obtain rfl : k = rl := by omega
              simp -dsimp [model_Copy.b1, g1, g2, g20, g21', g4, g64, g65, ge]
          · clear g1 g2 g20 g21' g4 g64 g65 ge
            rintro e s3 ⟨rfl, g1, g2, g20, g21', g4, ge⟩
            simp -dsimp [g1, g2, g20, g21', g4, ge]
            exact ⟨x, tl1, he, hcx⟩
        · rintro s2 ⟨g1, g2, g20, g21', x, tl2, ge, gc⟩
          have hRi : (R.set i (conC c x))[i]? = some (conC c x) := by rw [List.getElem?_set_self (by omega)]
          have hR9 : ∀ z, z = rowsV c → (R.set i (conC c x)).set i ((conC c x).set 9 z) = R := by
            rintro z rfl
            have : (conC c x).set 9 (rowsV c) = R[i]'(by omega) := by rw [hmi']; rfl
            rw [List.set_set, this]; exact List.set_getElem_self _
          have hids : ∀ (i' : Nat) (row' : List V), (R.set i (conC c x))[i']? = some row' → ∀ (j' : Nat) (y : V), row'[j']? = some y → (i' = i ∧ j' = 9) ∨ ∀ k ∈ y.ids, k ∈ ([] : List Nat) := by
            intro i' row' hi' j' y hy
            by_cases e : i = i'
            · subst e
              rw [List.getElem?_set_self (by omega)] at hi'
              injection hi' with hi'
              subst hi'
              by_cases ej : j' = 9
              · exact .inl ⟨rfl, ej⟩
              · right
                have : (conC c x).length = 10 := rfl
                have hjl := lt_of_get hy
                rw [this] at hjl
                have hj : j' = 0 ∨ j' = 1 ∨ j' = 2 ∨ j' = 3 ∨ j' = 4 ∨ j' = 5 ∨ j' = 6 ∨ j' = 7 ∨ j' = 8 := by omega
                rcases hj with rfl | rfl | rfl | rfl | rfl | rfl | rfl | rfl | rfl <;> (simp at hy; subst hy; simp [V.ids])
            · right
              rw [List.getElem?_set_ne e, ← hR, List.getElem?_map, Option.map_eq_some_iff] at hi'
              obtain ⟨d, _, rfl⟩ := hi'
              have hd : V.idsL d.cells = [] := rfl
              intro k hk
              rw [(idsL_nil_iff.1 hd) y (List.mem_of_getElem? hy)] at hk
              cases hk
          obtain ⟨s3, hs3⟩ : ∃ s3, s2.res 0 = s3 := ⟨_, rfl⟩
          have q1 : gt s3.sl 1 = .ptr 0 1 0 0 := by rw [← hs3]; exact g1
          have q2 : gt s3.sl 2 = .ptr 1 1 0 0 := by rw [← hs3]; exact g2
          have q20 : gt s3.sl 20 = V.i n := by rw [← hs3]; exact g20
          have q21 : gt s3.sl 21 = V.i i := by rw [← hs3]; exact g21'
          have qe : s3.hp = s2.hp := by rw [← hs3]; simp [St.res]
          rw [ge] at qe
          refine vc_reg_of ?_
          rw [hs3]
          have go : ∀ tl3 : Heap, Weak s3 { s3 with hp := [.mem false [3] [mdl m (.own 3 10 0 n n)], .mem false [] [[nilV, nilV, .bool false, nilV]], .res, .mem false [] R] ++ tl3 } → ∃ st', Weak s3 st' ∧ gt st'.sl 1 = .ptr 0 1 0 0 ∧ gt st'.sl 2 = .ptr 1 1 0 0 ∧ gt st'.sl 20 = V.i n ∧ gt st'.sl 21 = V.i i ∧ ∃ tl3, st'.hp = [.mem false [3] [mdl m (.own 3 10 0 n n)], .mem false [] [[nilV, nilV, .bool false, nilV]], .res, .mem false [] R] ++ tl3 :=
            fun tl3 hw => ⟨_, hw, q1, q2, q20, q21, tl3, rfl⟩
          have key : ∃ st', Weak s3 st' ∧ gt st'.sl 1 = .ptr 0 1 0 0 ∧ gt st'.sl 2 = .ptr 1 1 0 0 ∧ gt st'.sl 20 = V.i n ∧ gt st'.sl 21 = V.i i ∧ ∃ tl3, st'.hp = [.mem false [3] [mdl m (.own 3 10 0 n n)], .mem false [] [[nilV, nilV, .bool false, nilV]], .res, .mem false [] R] ++ tl3 := by
            rcases gc with ⟨h0', hxx, _⟩ | ⟨h0', rfl, rfl⟩
            · have hz : rowsV c = .view 1 [] := by simp [rowsV, h0']
              have hsub : x.sub (.view 1 []) := by rcases hxx with rfl | rfl; exact V.sub.nil _; exact V.sub.nul _ _
              have hid : s3.hp[3]? = some (.mem false [] (R.set i (conC c x))) := by rw [qe]; simp [h0']
              have W := Weak.cellsub (st := s3) (refs' := []) (j := 9) hid hRi rfl hsub rfl hids
              rw [hR9 _ hz.symm, qe] at W
              exact go tl2 (by simpa using W)
            · have hid : s3.hp[3]? = some (.mem false [5] (R.set i (conC c (.own 5 1 0 c.rows.length c.rows.length)))) := by rw [qe]; simp [h0']
              have hgd : s3.hp.getD 5 .dead = .mem false [] (c.rows.map rowI) := by rw [qe]; simp
              have hz : V.fz s3.hp (.own 5 1 0 c.rows.length c.rows.length) = rowsV c := by
                simp only [V.fz]
                rw [hgd]
                simp only [O.rows, List.drop_zero]
                rw [List.take_of_length_le (by simp)]
              have W := Weak.frzc (st := s3) (refs' := []) (j := 9) hid hRi rfl (by simp only [V.fzP]; rw [hgd]; exact ⟨rfl, by simp [O.rows], rfl⟩) (by simp [V.ids]) hids
              rw [hR9 _ hz, qe] at W
              exact go [.res, .mem true [] (c.rows.map rowI)] (by simpa [V.ids, Heap.fz, O.fz] using W)
          obtain ⟨st', hW, f1, f2, f20, f21, tl3, fe⟩ := key
          refine ⟨st', hW, ?_⟩
          simp -dsimp [f1, f2, f20, f21, fe, hw, g21]
          exact ⟨⟨i + 1, by omega, by omega, he3.symm⟩, by omega⟩
      · obtain rfl : i = n := by omega
        simp -dsimp [model_Copy.b0, h1, h2, h20, h21, he]
    · rintro e s ⟨rfl, g2, g1, ge⟩
      simp -dsimp [g2, g1, ge]
  rintro s ⟨g2, g1, ge⟩
  rcases hcase with ⟨h0, e | e⟩ | ⟨h0, e⟩
  · subst e
    simp -dsimp [g1, g2, ge, model_Copy.rs, h0]
  · subst e
    simp -dsimp [g1, g2, ge, model_Copy.rs, h0]
  · subst e
    simp -dsimp [g1, g2, ge, model_Copy.rs, h0]
end Go.Abs.G

namespace Go.Abs.G
open Go.Proofs
set_option linter.unusedVariables false
set_option linter.unusedSimpArgs false

theorem insideAt_bound {any : List Int} {i : Nat} {v : Var} (h : VarOk v) : v.lo ≤ insideAt any i v ∧ insideAt any i v ≤ v.hi := by
  have h1 := h.le
  unfold insideAt
  split
  · have := placeI_bound (any.getD i 0) (n := v.hi - v.lo + 1) (by omega)
    omega
  · omega

theorem inside_within {m : Model} (hR : Right m) (any : List Int) : Within m (insideL m any) := by
  refine ⟨by simp [insideL], fun i v hv => ?_⟩
  have h := insideAt_bound (any := any) (i := i) (VarOk.of (hR.var i v hv))
  have e : (insideL m any).getD i 0 = insideAt any i v := by simp [insideL, List.getD, hv]
  rw [e]; exact h

theorem inside_dp (m : Model) (any : List Int) (hm' : okModel m) (hR : Right m) (ha : any.length ≤ maxLen) : Pf Try.prog hallmarklaw4_inside.id [.agg m.cells, vInts any] (vInts (insideL m any)) := by
  refine DC.mono (inside_spec m any hm' hR ha) fun r H ⟨o1, o2, hr, hH⟩ => ?_
  subst hr hH
  have hl : (insideL m any).length = m.vars.length := by simp [insideL]
  simp [hl, vInts]
  exact List.take_of_length_le (by simp [hl])

theorem set_rows (L : List Int) (n : Nat) (a : Int) : (L.map fun n => [V.i n]).set n [V.i a] = (L.set n a).map fun n => [V.i n] := by
  rw [List.map_set]

def wantL (m : Model) (least : Bool) (t : Term) : Int := if decide (0 < t.c) = least then (varAt m t.x).lo else (varAt m t.x).hi

/-- What stands behind i rounds. -/
structure Round (m : Model) (i : Nat) (L T : List Int) : Prop where
  l : Within m L
  t : Within m T
  low : ∀ (j : Nat) (t : Term), j < i → m.goal[j]? = some t → atI L t.x = wantL m true t
  top : ∀ (j : Nat) (t : Term), j < i → m.goal[j]? = some t → atI T t.x = wantL m false t

theorem Within.set {m : Model} {L : List Int} (h : Within m L) {n : Nat} {a : Int} {v : Var} (hv : m.vars[n]? = some v) (ha : v.lo ≤ a ∧ a ≤ v.hi) : Within m (L.set n a) := by
  refine ⟨by simp [h.1], fun i w hw => ?_⟩
  by_cases hi : n = i
  · subst hi
    rw [hv] at hw; injection hw with hw; subst hw
    have hlt : n < L.length := by rw [h.1]; exact lt_of_get hv
    simp [List.getD, hlt]; exact ha
  · have := h.2 i w hw
    simp only [List.getD, List.getElem?_set_ne hi] at this ⊢
    exact this

theorem Round.next {m : Model} (hR : Right m) {i : Nat} {L T : List Int} (h : Round m i L T) {t : Term} (ht : m.goal[i]? = some t) (hd : ∀ (k : Nat) (u : Term), k < i → m.goal[k]? = some u → u.x ≠ t.x) {a b : Int}
    (ha : a = wantL m true t) (hb : b = wantL m false t) : Round m (i + 1) (L.set t.x.toNat a) (T.set t.x.toNat b) := by
  have hok := hR.terms.1 t (List.mem_of_getElem? ht)
  obtain ⟨hv, hvo⟩ := hR.varAt hok.x.1 hok.x.2
  have hle := hvo.le
  have hab : (varAt m t.x).lo ≤ a ∧ a ≤ (varAt m t.x).hi := by rw [ha]; unfold wantL; split <;> omega
  have hbb : (varAt m t.x).lo ≤ b ∧ b ≤ (varAt m t.x).hi := by rw [hb]; unfold wantL; split <;> omega
  have key : ∀ (M : List Int) (c : Int) (least : Bool), Within m M → c = wantL m least t → (∀ (j : Nat) (u : Term), j < i → m.goal[j]? = some u → atI M u.x = wantL m least u) →
      ∀ (j : Nat) (u : Term), j < i + 1 → m.goal[j]? = some u → atI (M.set t.x.toNat c) u.x = wantL m least u := by
    intro M c least hM hc hold j u hj hu
    by_cases hji : j = i
    · subst hji
      rw [ht] at hu; injection hu with hu; subst hu
      have hlt : t.x.toNat < M.length := by rw [hM.1]; have := hok.x; omega
      simp [atI, List.getD, hlt, hc]
    · have hj' : j < i := by omega
      have huo := hR.terms.1 u (List.mem_of_getElem? hu)
      have hne := hd j u hj' hu
      have hne' : t.x.toNat ≠ u.x.toNat := by have := hok.x; have := huo.x; omega
      rw [← hold j u hj' hu]
      simp only [atI, List.getD, List.getElem?_set_ne hne']
  exact ⟨Within.set h.l hv hab, Within.set h.t hv hbb, key L a true h.l ha h.low, key T b false h.t hb h.top⟩

theorem Round.low_worth {m : Model} (hr : rightB m = true) {L T : List Int} (h : Round m m.goal.length L T) : worthB m L = endsB m true ∧ worthB m T = endsB m false := by
  constructor
  · refine worth_ends hr h.l true fun t ht => ?_
    obtain ⟨j, hj⟩ := List.getElem?_of_mem ht
    exact h.low j t (lt_of_get hj) hj
  · refine worth_ends hr h.t false fun t ht => ?_
    obtain ⟨j, hj⟩ := List.getElem?_of_mem ht
    exact h.top j t (lt_of_get hj) hj

theorem worth_law (m : Model) (any : List Int) (hm' : okModel m) (ha : okInts any) : Pf Try.prog hallmarklaw4_ModelWorth.id [.agg m.cells, vInts any] (.bool true) := by
  have hm : (maxLen : Int) ≤ 9223372036854775807 := by decide
  refine DC.of hallmarklaw4_ModelWorth.ok (by simp) ?_
  unfold hallmarklaw4_ModelWorth.ir
  refine vc_cut (fun s => gt s.sl 1 = vInts any ∧ gt s.sl 2 = .ptr 0 1 0 0 ∧ s.hp = [.mem false [] [m.cells]]) (by simp [Model.cells, vVars, vCons, vTerms]) ?_
  rintro ⟨sl, hp, bs⟩ ⟨h1, h2, rfl⟩
  refine vc_cut (fun s => gt s.sl 1 = vInts any ∧ gt s.sl 2 = .ptr 0 1 0 0 ∧ s.hp = [.mem false [] [m.cells]]) ?_ ?_
  · simp -dsimp [↓call_f, h1, h2, Model.cells, vVars, vCons, vTerms, vInts]
    refine DP.mono (few_spec m any hm' ha.1) fun r ⟨b, hr⟩ => ?_
    subst hr
    cases b <;> simp -dsimp [h1, h2, Model.cells, vVars, vCons, vTerms, vInts, hallmarklaw4_ModelWorth.rs]
  rintro ⟨sl, hp, bs⟩ ⟨h1, h2, rfl⟩
  refine vc_cut (fun s => gt s.sl 1 = vInts any ∧ gt s.sl 2 = .ptr 0 1 0 0 ∧ s.hp = [.mem false [] [m.cells]]) ?_ ?_
  · simp -dsimp [↓call_f, h1, h2]
    refine known_spec.use ?_
    simp -dsimp [h1, h2]
  rintro ⟨sl, hp, bs⟩ ⟨h1, h2, rfl⟩
  refine vc_cut (fun s => gt s.sl 1 = vInts any ∧ gt s.sl 2 = .ptr 0 1 0 0 ∧ s.hp = [.mem false [] [m.cells]] ∧ rightB m = true) ?_ ?_
  · simp -dsimp [↓call_f, h1, h2, Model.cells, vVars, vCons, vTerms, vInts]
    refine (lright_spec m hm').use ?_
    cases hr : rightB m
    · simp -dsimp [hallmarklaw4_ModelWorth.rs]
    · cases hg : m.hasGoal <;> simp -dsimp [h1, h2, Model.cells, vVars, vCons, vTerms, vInts, hallmarklaw4_ModelWorth.rs, hg]
  rintro ⟨sl, hp, bs⟩ ⟨h1, h2, rfl, hr⟩
  have hR := right_iff.1 hr
  have hw1 := inside_within hR any
  refine vc_cut (fun s => gt s.sl 2 = .ptr 0 1 0 0 ∧ gt s.sl 5 = V.i (worthB m (insideL m any)) ∧ s.hp = [.mem false [] [m.cells]]) ?_ ?_
  · simp -dsimp [↓call_f, ↓callb_fn, h1, h2, Model.cells, vVars, vCons, vTerms, vInts]
    refine (inside_dp m any hm' hR ha.1).use ?_
    have hlen : (insideL m any).length ≤ maxLen := by have := hR.nv; have := hw1.1; have : (32 : Nat) ≤ maxLen := by decide
                                                      omega
    generalize insideL m any = L at *
    simp -dsimp [↓callb_fn, h1, h2, Model.cells, vVars, vCons, vTerms, vInts]
    refine (worth_spec m L hm' hlen).use ?_
    simp -dsimp [h1, h2, Model.cells, vVars, vCons, vTerms, vInts]
  rintro ⟨sl, hp, bs⟩ ⟨h2, h5, rfl⟩
  have hbet := worth_between hr hw1
  refine vc_cut (fun s => gt s.sl 2 = .ptr 0 1 0 0 ∧ s.hp = [.mem false [] [m.cells]]) ?_ ?_
  · have n1 : ¬ worthB m (insideL m any) < endsB m true := by omega
    have n2 : ¬ endsB m false < worthB m (insideL m any) := by omega
    simp -dsimp [↓callb_fn, h2, h5, Model.cells, vVars, vCons, vTerms, vInts]
    refine (floor_spec m hm').use ?_
    simp -dsimp [↓callb_fn, h2, h5, n1, Model.cells, vVars, vCons, vTerms, vInts]
    refine (ceil_spec m hm').use ?_
    simp -dsimp [↓callb_fn, h2, h5, n2, Model.cells, vVars, vCons, vTerms, vInts]
  rintro ⟨sl, hp, bs⟩ ⟨h2, rfl⟩
  refine vc_cut (fun s => gt s.sl 2 = .ptr 0 1 0 0 ∧ gt s.sl 6 = .own 3 1 0 m.vars.length m.vars.length ∧ gt s.sl 7 = .own 6 1 0 m.vars.length m.vars.length ∧ ∃ a b c d, s.hp = [.mem false [] [m.cells], a, b, .mem false [] ((insideL m []).map fun n => [V.i n]), c, d, .mem false [] ((insideL m []).map fun n => [V.i n])]) ?_ ?_
  · simp -dsimp [↓callo_fn, h2, Model.cells, vVars, vCons, vTerms, vInts]
    refine DC.sub (ys := [.agg m.cells, vInts []]) (.cons (.refl _) (.cons (.nil 1) .nil)) (DC.mono (inside_spec m [] hm' hR (by decide)) fun r H ⟨o1, o2, hr', hH⟩ => ?_)
    subst hr' hH
    simp -dsimp [↓callo_fn, h2, Model.cells, vVars, vCons, vTerms, vInts]
    refine DC.sub (ys := [.agg m.cells, vInts []]) (.cons (.refl _) (.cons (.nil 1) .nil)) (DC.mono (inside_spec m [] hm' hR (by decide)) fun r H ⟨o1, o2, hr', hH⟩ => ?_)
    subst hr' hH
    simp -dsimp [h2, Model.cells, vVars, vCons, vTerms, vInts]
  rintro s ⟨h2, h6, h7, a, b, c, d, he⟩
  refine vc_cut (fun s => gt s.sl 2 = .ptr 0 1 0 0 ∧ gt s.sl 6 = .own 3 1 0 m.vars.length m.vars.length ∧ gt s.sl 7 = .own 6 1 0 m.vars.length m.vars.length ∧ ∃ L T a b c d, Round m m.goal.length L T ∧ s.hp = [.mem false [] [m.cells], a, b, .mem false [] (L.map fun n => [V.i n]), c, d, .mem false [] (T.map fun n => [V.i n])]) ?_ ?_
  · have hw0 := inside_within hR []
    simp -dsimp [↓loop_f, h2, h6, h7, he]
    refine WI.mono (Q := fun e s => (e = .ret ∧ gt s.sl 4 = .bool true) ∨ (e = .exit 0 ∧ gt s.sl 2 = .ptr 0 1 0 0 ∧ gt s.sl 6 = .own 3 1 0 m.vars.length m.vars.length ∧ gt s.sl 7 = .own 6 1 0 m.vars.length m.vars.length ∧ ∃ L T a b c d, Round m m.goal.length L T ∧ s.hp = [.mem false [] [m.cells], a, b, .mem false [] (L.map fun n => [V.i n]), c, d, .mem false [] (T.map fun n => [V.i n])])) (WI.loop 7 (by simp) (fun s => ∃ i L T a b c d, i ≤ m.goal.length ∧ gt s.sl 2 = .ptr 0 1 0 0 ∧ gt s.sl 6 = .own 3 1 0 m.vars.length m.vars.length ∧ gt s.sl 7 = .own 6 1 0 m.vars.length m.vars.length ∧ gt s.sl 8 = V.i i ∧ Round m i L T ∧ s.hp = [.mem false [] [m.cells], a, b, .mem false [] (L.map fun n => [V.i n]), c, d, .mem false [] (T.map fun n => [V.i n])]) (fun s => (m.goal.length - (gt s.sl 8).num).toNat) ?_ ?_) ?_
    · exact ⟨0, _, _, a, b, c, d, by omega, by simp [h2], by simp [h6], by simp [h7], by simp, ⟨hw0, hw0, fun j t h => by omega, fun j t h => by omega⟩, rfl⟩
    · rintro s ⟨i, L, T, a, b, c, d, hi, h2, h6, h7, h8, hrd, he⟩
      by_cases hil : i < m.goal.length
      · have ht : m.goal[i]? = some m.goal[i] := List.getElem?_eq_getElem hil
        have hw : IntKind.i64.wrap ((i : Int) + 1) = ((i + 1 : Nat) : Int) := by
          have := hR.terms.2
          rw [wrap64] <;> omega
        have hgl := hR.terms.2
        have hok := hR.terms.1 _ (List.getElem_mem hil)
        obtain ⟨hv1, hvo⟩ := hR.varAt hok.x.1 hok.x.2
        have g8 := h8
        generalize hT' : m.goal[i] = t at *
        obtain ⟨n, hn⟩ := Int.eq_ofNat_of_zero_le hok.x.1
        have hxl := hok.x.2
        rw [hn] at hxl
        have hnl : n < m.vars.length := by omega
        have hva : m.vars[n] = varAt m t.x := by
          rw [hn] at hv1
          simp [List.getElem?_eq_getElem hnl] at hv1
          rw [hn]; exact hv1
        have hLl := hrd.l.1
        have hTl := hrd.t.1
        generalize hvv : varAt m t.x = v at *
        unfold hallmarklaw4_ModelWorth.b0
        refine vc_cut (fun s => gt s.sl 2 = .ptr 0 1 0 0 ∧ gt s.sl 6 = .own 3 1 0 m.vars.length m.vars.length ∧ gt s.sl 7 = .own 6 1 0 m.vars.length m.vars.length ∧ gt s.sl 8 = V.i i ∧ s.hp = [.mem false [] [m.cells], a, b, .mem false [] (L.map fun n => [V.i n]), c, d, .mem false [] (T.map fun n => [V.i n])]) (by simp -dsimp [h2, h6, h7, h8, he, hil, Model.cells, vVars, vCons, vTerms, vInts, Term.cells, Var.cells]) ?_
        clear h2 h6 h7 h8 he
        rintro s1 ⟨h2, h6, h7, h8, he⟩
        refine vc_cut (fun s => gt s.sl 2 = .ptr 0 1 0 0 ∧ gt s.sl 6 = .own 3 1 0 m.vars.length m.vars.length ∧ gt s.sl 7 = .own 6 1 0 m.vars.length m.vars.length ∧ gt s.sl 8 = V.i i ∧ ∃ L T a b c d o, Round m (i + 1) L T ∧ s.hp = [.mem false [] [m.cells], a, b, .mem false [] (L.map fun n => [V.i n]), c, d, .mem false [] (T.map fun n => [V.i n]), o]) (vc_block_of ?_) ?_
        · refine vc_cut (fun s => gt s.sl 2 = .ptr 0 1 0 0 ∧ gt s.sl 6 = .own 3 1 0 m.vars.length m.vars.length ∧ gt s.sl 7 = .own 6 1 0 m.vars.length m.vars.length ∧ gt s.sl 8 = V.i i ∧ gt s.sl 9 = .ptr 7 1 0 0 ∧ s.hp = [.mem false [] [m.cells], a, b, .mem false [] (L.map fun n => [V.i n]), c, d, .mem false [] (T.map fun n => [V.i n]), .mem false [] [t.cells]]) (by simp -dsimp [h2, h6, h7, h8, he, hil, hT', Model.cells, vVars, vCons, vTerms, vInts, Term.cells, Var.cells]) ?_
          clear h2 h6 h7 h8 he
          rintro s2 ⟨h2, h6, h7, h8, h9, he⟩
          refine vc_cut (fun s => gt s.sl 2 = .ptr 0 1 0 0 ∧ gt s.sl 6 = .own 3 1 0 m.vars.length m.vars.length ∧ gt s.sl 7 = .own 6 1 0 m.vars.length m.vars.length ∧ gt s.sl 8 = V.i i ∧ gt s.sl 9 = .ptr 7 1 0 0 ∧ (∃ a b c d, s.hp = [.mem false [] [m.cells], a, b, .mem false [] (L.map fun n => [V.i n]), c, d, .mem false [] (T.map fun n => [V.i n]), .mem false [] [t.cells]]) ∧ ∀ (k : Nat) (u : Term), k < i → m.goal[k]? = some u → u.x ≠ t.x) ?_ ?_
          · simp -dsimp [↓loop_f, h2, h6, h7, h8, h9, he]
            refine WI.mono (Q := fun e s => (e = .ret ∧ gt s.sl 4 = .bool true) ∨ (e = .exit 2 ∧ gt s.sl 2 = .ptr 0 1 0 0 ∧ gt s.sl 6 = .own 3 1 0 m.vars.length m.vars.length ∧ gt s.sl 7 = .own 6 1 0 m.vars.length m.vars.length ∧ gt s.sl 8 = V.i i ∧ gt s.sl 9 = .ptr 7 1 0 0 ∧ (∃ a b c d, s.hp = [.mem false [] [m.cells], a, b, .mem false [] (L.map fun n => [V.i n]), c, d, .mem false [] (T.map fun n => [V.i n]), .mem false [] [t.cells]]) ∧ ∀ (k : Nat) (u : Term), k < i → m.goal[k]? = some u → u.x ≠ t.x)) (WI.loop 8 (by simp) (fun s => ∃ k, k ≤ i ∧ gt s.sl 2 = .ptr 0 1 0 0 ∧ gt s.sl 6 = .own 3 1 0 m.vars.length m.vars.length ∧ gt s.sl 7 = .own 6 1 0 m.vars.length m.vars.length ∧ gt s.sl 8 = V.i i ∧ gt s.sl 9 = .ptr 7 1 0 0 ∧ gt s.sl 10 = V.i k ∧ (∃ a b c d, s.hp = [.mem false [] [m.cells], a, b, .mem false [] (L.map fun n => [V.i n]), c, d, .mem false [] (T.map fun n => [V.i n]), .mem false [] [t.cells]]) ∧ ∀ (j : Nat) (u : Term), j < k → m.goal[j]? = some u → u.x ≠ t.x) (fun s => (i - (gt s.sl 10).num).toNat) ?_ ?_) ?_
            · exact ⟨0, by omega, by simp, by simp, by simp, by simp, by simp, by simp, ⟨a, b, c, d, by simp⟩, fun j u h => by omega⟩
            · clear h2 h6 h7 h8 h9 he
              rintro s3 ⟨k, hk, h2, h6, h7, h8, h9, h10, ⟨a, b, c, d, he⟩, hd⟩
              by_cases hki : k < i
              · have hkl : k < m.goal.length := by omega
                have hwk : IntKind.i64.wrap ((k : Int) + 1) = ((k + 1 : Nat) : Int) := by rw [wrap64] <;> omega
                by_cases hx : m.goal[k].x = t.x
                · simp -dsimp [hallmarklaw4_ModelWorth.b1, h2, h6, h7, h8, h9, h10, he, hki, hkl, hx, Model.cells, vVars, vCons, vTerms, vInts, Term.cells, Var.cells]
                · simp -dsimp [hallmarklaw4_ModelWorth.b1, h2, h6, h7, h8, h9, h10, he, hki, hkl, hx, hwk, Model.cells, vVars, vCons, vTerms, vInts, Term.cells, Var.cells]
                  refine ⟨⟨k + 1, by omega, by omega, fun j u hj hu => ?_⟩, by omega⟩
                  by_cases hjk : j = k
                  · subst hjk
                    rw [List.getElem?_eq_getElem hkl] at hu
                    injection hu with hu
                    rw [← hu]; exact hx
                  · exact hd j u (by omega) hu
              · obtain rfl : k = i := by omega
                simp -dsimp [hallmarklaw4_ModelWorth.b1, h2, h6, h7, h8, h9, h10, he, Model.cells, vVars, vCons, vTerms, vInts, Term.cells, Var.cells]
                exact hd
            · clear h2 h6 h7 h8 h9 he
              rintro e s3 (⟨rfl, h4⟩ | ⟨rfl, h2, h6, h7, h8, h9, ⟨a, b, c, d, he⟩, hd⟩)
              · simp [h4, hallmarklaw4_ModelWorth.rs]
              · simp [h2, h6, h7, h8, h9, he]
                exact hd
          clear h2 h6 h7 h8 h9 he
          rintro s3 ⟨h2, h6, h7, h8, h9, ⟨a, b, c, d, he⟩, hd⟩
          refine vc_cut (fun s => gt s.sl 2 = .ptr 0 1 0 0 ∧ gt s.sl 6 = .own 3 1 0 m.vars.length m.vars.length ∧ gt s.sl 7 = .own 6 1 0 m.vars.length m.vars.length ∧ gt s.sl 8 = V.i i ∧ gt s.sl 9 = .ptr 7 1 0 0 ∧ s.hp = [.mem false [] [m.cells], a, b, .mem false [] ((L.set n v.lo).map fun n => [V.i n]), c, d, .mem false [] ((T.set n v.hi).map fun n => [V.i n]), .mem false [] [t.cells]]) ?_ ?_
          · simp -dsimp [h2, h6, h7, h8, h9, he, Model.cells, vVars, vCons, vTerms, vInts, Term.cells, Var.cells, hn, hnl, hva, hLl, hTl]
          clear h2 h6 h7 h8 h9 he
          rintro s4 ⟨h2, h6, h7, h8, h9, he⟩
          have hnn : t.x.toNat = n := by omega
          by_cases hc : t.c < 0
          · have hc' : ¬ 0 < t.c := by omega
            simp -dsimp [h2, h6, h7, h8, h9, he, Model.cells, vVars, vCons, vTerms, vInts, Term.cells, Var.cells, hn, hnl, hva, hLl, hTl, hc]
            exact ⟨L.set n v.hi, T.set n v.lo, hnn ▸ Round.next hR hrd ht hd (by simp [wantL, hvv, hc']) (by simp [wantL, hvv, hc']), by rw [List.map_set], by rw [List.map_set]⟩
          · simp -dsimp [h2, h6, h7, h8, h9, he, Model.cells, vVars, vCons, vTerms, vInts, Term.cells, Var.cells, hn, hnl, hva, hLl, hTl, hc]
            have hc2 : 0 < t.c := by have := hok.c.2.2; omega
            exact ⟨L.set n v.lo, T.set n v.hi, hnn ▸ Round.next hR hrd ht hd (by simp [wantL, hvv, hc2]) (by simp [wantL, hvv, hc2]), by rw [List.map_set], by rw [List.map_set]⟩
        · rintro s5 ⟨h2, h6, h7, h8, L, T, a, b, c, d, o, hrd, he⟩
          simp -dsimp [h2, h6, h7, h8, he, hw, g8]
          exact ⟨⟨i + 1, by omega, by omega, L, T, hrd, rfl, rfl⟩, by omega⟩
      · obtain rfl : i = m.goal.length := by omega
        simp -dsimp [hallmarklaw4_ModelWorth.b0, h2, h6, h7, h8, he, Model.cells, vVars, vCons, vTerms, vInts]
        exact ⟨L, T, hrd, rfl, rfl⟩
    · rintro e s (⟨rfl, h4⟩ | ⟨rfl, h2, h6, h7, L, T, a, b, c, d, hrd, he⟩)
      · simp [h4, hallmarklaw4_ModelWorth.rs]
      · simp [h2, h6, h7, he]
        exact ⟨L, T, hrd, rfl, rfl⟩
  rintro s ⟨h2, h6, h7, L, T, a, b, c, d, hrd, he⟩
  obtain ⟨e1, e2⟩ := hrd.low_worth hr
  have hLl := hrd.l.1
  have hTl := hrd.t.1
  have hnv := hR.nv
  have h32 : (32 : Nat) ≤ maxLen := by decide
  have kL : List.take m.vars.length (L.map fun n => [V.i n]) = L.map fun n => [V.i n] := List.take_of_length_le (by simp [hLl])
  have kT : List.take m.vars.length (T.map fun n => [V.i n]) = T.map fun n => [V.i n] := List.take_of_length_le (by simp [hTl])
  have s1 := worth_spec m L hm' (by omega)
  have s2 := worth_spec m T hm' (by omega)
  rw [e1] at s1
  rw [e2] at s2
  simp -dsimp [↓callb_fn, h2, h6, h7, he, hLl, hTl, kL, kT, Model.cells, vVars, vCons, vTerms, vInts]
  refine s1.use ?_
  simp -dsimp [↓callb_fn, h2, h6, h7, he, hLl, hTl, kL, kT, Model.cells, vVars, vCons, vTerms, vInts]
  refine (floor_spec m hm').use ?_
  simp -dsimp [↓callb_fn, h2, h6, h7, he, hLl, hTl, kL, kT, Model.cells, vVars, vCons, vTerms, vInts]
  refine s2.use ?_
  simp -dsimp [↓callb_fn, h2, h6, h7, he, hLl, hTl, kL, kT, Model.cells, vVars, vCons, vTerms, vInts]
  refine (ceil_spec m hm').use ?_
  simp -dsimp [↓callb_fn, h2, h6, h7, he, hLl, hTl, kL, kT, Model.cells, vVars, vCons, vTerms, vInts, hallmarklaw4_ModelWorth.rs]
end Go.Abs.G

namespace Go.Abs.G
open Go.Proofs
set_option linter.unusedVariables false
set_option linter.unusedSimpArgs false

def plusM (m : Model) (c : Con) : Model := { m with cons := m.cons ++ [c] }

theorem sol_plus {m : Model} {c : Con} {v : List Int} (h1 : rightB m = true) (h2 : rightB (plusM m c) = true) (hl : v.length = m.vars.length) : solB (plusM m c) v = (solB m v && holdsB c v) := by
  simp only [solB, h1, h2, hl]
  have : (plusM m c).vars = m.vars := rfl
  simp only [this, hl, ne_eq, not_true, decide_false, Bool.not_true, Bool.or_self, Bool.false_eq_true, if_false]
  have hb : inBounds (plusM m c) v = inBounds m v := rfl
  rw [hb]
  simp only [plusM, List.all_append, List.all_cons, List.all_nil, Bool.and_true, Bool.and_assoc]

theorem sol_long {m : Model} {v : List Int} (hl : v.length = m.vars.length) : solB m (v ++ [0]) = false := by
  simp [solB, hl]

theorem plusM_ok {m : Model} {c : Con} (hm : okModel m) (hc : okCon c) (hl : m.cons.length ≤ 20000) : okModel (plusM m c) := by
  have h2 : (20000 : Nat) + 1 ≤ maxLen := by decide
  refine ⟨hm.1, ⟨by simp [plusM]; omega, fun d hd => ?_⟩, hm.2.2⟩
  simp only [plusM, List.mem_append, List.mem_singleton] at hd
  rcases hd with hd | rfl
  · exact hm.2.1.2 d hd
  · exact hc

theorem more_rest (m : Model) (c : Con) (any : List Int) (hm' : okModel m) (hc : okCon c) (ha : okInts any) (hf : FewM m) (s0 : St) (h2 : gt s0.sl 2 = vInts any) (h3 : gt s0.sl 3 = .ptr 0 1 0 0) (h4 : gt s0.sl 4 = .ptr 1 1 0 0) (h7 : gt s0.sl 7 = .ptr 3 1 0 0)
    (n : Nat) (hn : m.cons.length + 1 = n)
    (hcase : (∃ a b, s0.hp = [.mem false [] [m.cells], .mem false [] [c.cells], .res, .mem false [7] [mdl m (.own 7 10 0 n n)], a, b, .res, .mem false [] ((plusM m c).cons.map Con.cells), .res, .res]) ∨
      (∃ a b, s0.hp = [.mem false [] [m.cells], .mem false [] [c.cells], .res, .mem false [7] [mdl m (.own 7 10 0 n n)], a, b, .res, .mem false [] ((plusM m c).cons.map Con.cells)]) ∨
      (∃ a b, s0.hp = [.mem false [] [m.cells], .mem false [] [c.cells], .res, .mem false [9] [mdl m (.own 9 10 0 n n)], a, b, .res, .res, .res, .mem false [] ((plusM m c).cons.map Con.cells)])) :
    vc Try.prog (tailC 5 hallmarklaw4_ModelMore.ir) (fun e s => match e with | .exit _ => False | _ => resP s hallmarklaw4_ModelMore.rs ∧ (resV s hallmarklaw4_ModelMore.rs).fzP s.hp ∧ (resV s hallmarklaw4_ModelMore.rs).fz s.hp = .bool true) s0 := by
  have okp := plusM_ok hm' hc hf.cons
  unfold hallmarklaw4_ModelMore.ir
  simp only [tailC]
  have r1 := lright_spec m hm'
  have r2 := lright_spec (plusM m c) okp
  obtain ⟨q1, hq1⟩ : ∃ b, rightB m = b := ⟨_, rfl⟩
  obtain ⟨q2, hq2⟩ : ∃ b, rightB (plusM m c) = b := ⟨_, rfl⟩
  rw [hq1] at r1
  rw [hq2] at r2
  have hpc : (plusM m c).cells = [.view 3 (m.vars.map Var.cells), .view 10 ((plusM m c).cons.map Con.cells), .bool m.hasGoal, .view 2 (m.goal.map Term.cells)] := rfl
  have hRl : ((plusM m c).cons.map Con.cells).length = n := by simp [plusM, hn]
  have hRt : ((plusM m c).cons.map Con.cells).take n = (plusM m c).cons.map Con.cells := List.take_of_length_le (by omega)
  obtain ⟨R, hR⟩ : ∃ R, (plusM m c).cons.map Con.cells = R := ⟨_, rfl⟩
  rw [hR] at hpc hRl hRt hcase
  refine vc_cut (fun s => gt s.sl 2 = vInts any ∧ gt s.sl 3 = .ptr 0 1 0 0 ∧ gt s.sl 4 = .ptr 1 1 0 0 ∧ gt s.sl 7 = .ptr 3 1 0 0 ∧ s.hp = s0.hp ∧ q1 = true ∧ q2 = true) ?_ ?_
  · rcases hcase with ⟨a, b, e⟩ | ⟨a, b, e⟩ | ⟨a, b, e⟩
    all_goals
      simp -dsimp [↓callb_fn, h2, h3, h4, h7, e, Model.cells, vVars, vCons, vTerms]
      refine r1.use ?_
      cases q1
      · simp -dsimp [h2, h3, h4, h7, e, hallmarklaw4_ModelMore.rs]
      · simp -dsimp [↓callb_fn, h2, h3, h4, h7, e, hRl, hRt, Model.cells, vVars, vCons, vTerms]
        refine r2.use' (by rw [hpc]) ?_
        cases q2
        · simp -dsimp [h2, h3, h4, h7, e, hallmarklaw4_ModelMore.rs]
        · simp -dsimp [h2, h3, h4, h7, e, Model.cells, vVars, vCons, vTerms]
  rintro s ⟨h2', h3', h4', h7', he, rfl, rfl⟩
  have hRg := right_iff.1 hq1
  have hnv := hRg.nv
  obtain ⟨v, hv⟩ : ∃ v, insideL m any = v := ⟨_, rfl⟩
  have hvl : v.length = m.vars.length := by rw [← hv]; simp [insideL]
  have hvm : v.length ≤ maxLen := by have : 33 ≤ maxLen := by decide
                                     omega
  have hvm2 : (v ++ [0]).length ≤ maxLen := by have : 33 ≤ maxLen := by decide
                                               simp; omega
  have ins := inside_spec m any hm' hRg ha.1
  rw [hv, ← hvl] at ins
  have S1 := solution_spec (plusM m c) v okp hvm (fun _ _ => trivial)
  have S2 := solution_spec m v hm' hvm (fun _ _ => trivial)
  have S3 := solution_spec m (v ++ [0]) hm' hvm2 (fun _ _ => trivial)
  have S4 := holds_spec c v hc hvm trivial
  rw [sol_plus hq1 hq2 hvl] at S1
  rw [sol_long hvl] at S3
  obtain ⟨b2, hb2⟩ : ∃ b, solB m v = b := ⟨_, rfl⟩
  obtain ⟨b4, hb4⟩ : ∃ b, holdsB c v = b := ⟨_, rfl⟩
  rw [hb2] at S1 S2
  rw [hb4] at S1 S4
  have hvt : List.take v.length (v.map fun n => [V.i n]) = v.map fun n => [V.i n] := List.take_of_length_le (by simp)
  have hvt2 : List.take (v.length + 1) ((v.map fun n => [V.i n]) ++ [[V.i 0]]) = (v ++ [0]).map fun n => [V.i n] := by rw [List.take_of_length_le (by simp)]; simp
  have hbv : ((v.length : Int) + 1) * 8 ≤ 140737488355328 := by omega
  have hvv : V.view 1 (v.map fun n => [V.i n]) = vInts v := rfl
  rcases hcase with ⟨a, b, e⟩ | ⟨a, b, e⟩ | ⟨a, b, e⟩
  all_goals
    rw [e] at he
    refine vc_cut (fun s => gt s.sl 3 = .ptr 0 1 0 0 ∧ gt s.sl 4 = .ptr 1 1 0 0 ∧ gt s.sl 7 = .ptr 3 1 0 0 ∧ gt s.sl 8 = .own (s0.hp.length + 2) 1 0 v.length v.length ∧ ∃ o1 o2, s.hp = s0.hp ++ [o1, o2, .mem false [] (v.map fun n => [V.i n])]) ?_ ?_
    · simp -dsimp [↓callo_fn, h2', h3', h4', h7', he, Model.cells, vVars, vCons, vTerms]
      refine ⟨by simp [vInts], DC.mono ins fun r H ⟨o1, o2, hr, hH⟩ => ?_⟩
      subst hr hH
      simp -dsimp [h3', h4', h7', he, e, Model.cells, vVars, vCons, vTerms]
    rintro s1 ⟨g3, g4, g7, g8, o1, o2, ge⟩
    rw [e] at ge g8
    simp -dsimp [↓callb_fn, g3, g4, g7, g8, ge, hRl, hRt, hvt, Model.cells, vVars, vCons, vTerms]
    refine S1.use' (by rw [hpc]; rfl) ?_
    simp -dsimp [↓callb_fn, g3, g4, g7, g8, ge, hRl, hRt, hvt, Model.cells, vVars, vCons, vTerms]
    refine S2.use' rfl ?_
    cases b2
    · simp -dsimp [↓callb_fn, g3, g4, g7, g8, ge, hRl, hRt, hvt, hbv, hvt2, Model.cells, vVars, vCons, vTerms]
      refine S3.use' (by simp [Model.cells, vVars, vCons, vTerms, vInts]) ?_
      simp -dsimp [g3, g4, g7, ge, hallmarklaw4_ModelMore.rs]
    · simp -dsimp [↓callb_fn, g3, g4, g7, g8, ge, hRl, hRt, hvt, Con.cells, vTerms, vInts, vIntss]
      refine S4.use' rfl ?_
      simp -dsimp [↓callb_fn, g3, g4, g7, g8, ge, hRl, hRt, hvt, hbv, hvt2, Model.cells, vVars, vCons, vTerms]
      refine S3.use' (by simp [Model.cells, vVars, vCons, vTerms, vInts]) ?_
      simp -dsimp [g3, g4, g7, ge, hallmarklaw4_ModelMore.rs]

theorem more_law (m : Model) (c : Con) (any : List Int) (hm' : okModel m) (hc : okCon c) (ha : okInts any) : Pf Try.prog hallmarklaw4_ModelMore.id [.agg m.cells, .agg c.cells, vInts any] (.bool true) := by
  refine DC.of hallmarklaw4_ModelMore.ok (by simp) ?_
  unfold hallmarklaw4_ModelMore.ir
  refine vc_cut (fun s => gt s.sl 2 = vInts any ∧ gt s.sl 3 = .ptr 0 1 0 0 ∧ gt s.sl 4 = .ptr 1 1 0 0 ∧ s.hp = [.mem false [] [m.cells], .mem false [] [c.cells]]) (by simp [Con.cells, Model.cells, vVars, vCons, vTerms, vInts, vIntss]) ?_
  rintro ⟨sl, hp, bs⟩ ⟨h2, h3, h4, rfl⟩
  refine vc_cut (fun s => gt s.sl 2 = vInts any ∧ gt s.sl 3 = .ptr 0 1 0 0 ∧ gt s.sl 4 = .ptr 1 1 0 0 ∧ s.hp = [.mem false [] [m.cells], .mem false [] [c.cells], .res] ∧ FewM m) ?_ ?_
  · simp -dsimp [↓call_f, h2, h3, h4, Model.cells, vVars, vCons, vTerms]
    refine ⟨by simp [vInts], DP.mono (few2_spec m any hm' ha.1) fun r ⟨b, hr, hf⟩ => ?_⟩
    subst hr
    cases b
    · simp -dsimp [h2, h3, h4, hallmarklaw4_ModelMore.rs]
    · have hf := (hf rfl).1
      simp -dsimp [↓call_f, h2, h3, h4, Con.cells, vTerms, vInts, vIntss]
      refine DP.mono (DP.sub ?_ (few2_spec ⟨[], [c], false, []⟩ [] (oneM_ok hc) (by simp))) fun r ⟨b, hr, _⟩ => ?_
      · refine V.subL.cons (V.sub.agg ?_) (V.subL.cons (V.sub.nil _) V.subL.nil)
        exact V.subL.cons (V.sub.nil _) (V.subL.cons (V.sub.refl _) (V.subL.cons (V.sub.refl _) (V.subL.cons (V.sub.nil _) V.subL.nil)))
      subst hr
      cases b
      · simp -dsimp [h2, h3, h4, hallmarklaw4_ModelMore.rs]
      · simp -dsimp [h2, h3, h4, vInts, Con.cells, vTerms, vIntss]
        exact hf
  clear h2 h3 h4
  rintro ⟨sl, hp, bs⟩ ⟨h2, h3, h4, rfl, hf⟩
  refine vc_cut (fun s => gt s.sl 2 = vInts any ∧ gt s.sl 3 = .ptr 0 1 0 0 ∧ gt s.sl 4 = .ptr 1 1 0 0 ∧ s.hp = [.mem false [] [m.cells], .mem false [] [c.cells], .res]) ?_ ?_
  · simp -dsimp [↓call_f, h2, h3, h4]
    refine known_spec.use ?_
    simp -dsimp [h2, h3, h4]
  clear h2 h3 h4
  rintro ⟨sl, hp, bs⟩ ⟨h2, h3, h4, rfl⟩
  obtain ⟨n, hn⟩ : ∃ n, m.cons.length = n := ⟨_, rfl⟩
  refine vc_cut (fun s => gt s.sl 2 = vInts any ∧ gt s.sl 3 = .ptr 0 1 0 0 ∧ gt s.sl 4 = .ptr 1 1 0 0 ∧ gt s.sl 7 = .ptr 3 1 0 0 ∧
    ((m.cons = [] ∧ ∃ x a b, (x = nilV ∨ x = .nul 10) ∧ (s.hp = [.mem false [] [m.cells], .mem false [] [c.cells], .res, .mem false [] [mdl m x], a, b] ∨ s.hp = [.mem false [] [m.cells], .mem false [] [c.cells], .res, .mem false [] [mdl m x], a, b, .res, .res])) ∨
     (m.cons ≠ [] ∧ ∃ a b, s.hp = [.mem false [] [m.cells], .mem false [] [c.cells], .res, .mem false [7] [mdl m (.own 7 10 0 n n)], a, b, .res, .mem false [] (m.cons.map Con.cells)]))) ?_ ?_
  · simp -dsimp [↓callo_fn, h2, h3, h4, Model.cells, vVars, vCons, vTerms]
    refine DC.mono (copy_spec m hf) fun r H h => ?_
    rcases h with ⟨h0, x, a, b, hx, rfl, hH⟩ | ⟨h0, a, b, rfl, rfl⟩
    · have hxr : ∀ f, x.ren f = x := fun f => by rcases hx with rfl | rfl <;> rfl
      have hxi : x.ids = [] := by rcases hx with rfl | rfl <;> rfl
      have hx1 : ∀ H, x.sized H 1 := fun H => by rcases hx with rfl | rfl <;> simp
      rcases hH with rfl | rfl
      · rcases hx with rfl | rfl
        · simp -dsimp [h2, h3, h4, h0, Model.cells, vVars, vCons, vTerms]
        · simp -dsimp [h2, h3, h4, h0, Model.cells, vVars, vCons, vTerms]
      · rcases hx with rfl | rfl
        · simp -dsimp [h2, h3, h4, h0, Model.cells, vVars, vCons, vTerms]
        · simp -dsimp [h2, h3, h4, h0, Model.cells, vVars, vCons, vTerms]
    · simp -dsimp [h2, h3, h4, h0, hn, Model.cells, vVars, vCons, vTerms]
      exact fun c _ => renL_none _ rfl
  clear h2 h3 h4
  rintro s ⟨h2, h3, h4, h7, hcase⟩
  have hn2 : n ≤ 20000 := hn ▸ hf.cons
  have hml : (m.cons.map Con.cells).length = n := by simp [hn]
  have hpl : (plusM m c).cons.map Con.cells = m.cons.map Con.cells ++ [c.cells] := by simp [plusM]
  have hbn : ((n : Int) + 1) * 144 ≤ 140737488355328 := by omega
  refine vc_cut (fun s => gt s.sl 2 = vInts any ∧ gt s.sl 3 = .ptr 0 1 0 0 ∧ gt s.sl 4 = .ptr 1 1 0 0 ∧ gt s.sl 7 = .ptr 3 1 0 0 ∧
    ((∃ a b, s.hp = [.mem false [] [m.cells], .mem false [] [c.cells], .res, .mem false [7] [mdl m (.own 7 10 0 (n + 1) (n + 1))], a, b, .res, .mem false [] ((plusM m c).cons.map Con.cells), .res, .res]) ∨
      (∃ a b, s.hp = [.mem false [] [m.cells], .mem false [] [c.cells], .res, .mem false [7] [mdl m (.own 7 10 0 (n + 1) (n + 1))], a, b, .res, .mem false [] ((plusM m c).cons.map Con.cells)]) ∨
      (∃ a b, s.hp = [.mem false [] [m.cells], .mem false [] [c.cells], .res, .mem false [9] [mdl m (.own 9 10 0 (n + 1) (n + 1))], a, b, .res, .res, .res, .mem false [] ((plusM m c).cons.map Con.cells)]))) ?_ ?_
  · rw [hpl]
    rcases hcase with ⟨h0, x, a, b, hx, he | he⟩ | ⟨h0, a, b, he⟩
    · have hn0 : n = 0 := by rw [← hn, h0]; rfl
      subst hn0
      rcases hx with rfl | rfl <;> simp -dsimp [h2, h3, h4, h7, he, h0, con_cells, vTerms, vInts, vIntss]
    · have hn0 : n = 0 := by rw [← hn, h0]; rfl
      subst hn0
      rcases hx with rfl | rfl <;> simp -dsimp [h2, h3, h4, h7, he, h0, con_cells, vTerms, vInts, vIntss]
    · obtain ⟨R, hR⟩ : ∃ R, m.cons.map Con.cells = R := ⟨_, rfl⟩
      rw [hR] at hml he ⊢
      simp -dsimp [h2, h3, h4, h7, he, hml, hbn, con_cells, vTerms, vInts, vIntss]
  clear h2 h3 h4 h7 hcase
  rintro s ⟨h2, h3, h4, h7, hcase⟩
  exact more_rest m c any hm' hc ha hf s h2 h3 h4 h7 (n + 1) (by omega) hcase
end Go.Abs.G
