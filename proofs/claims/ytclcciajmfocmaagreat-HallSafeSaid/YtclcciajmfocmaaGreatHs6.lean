import Derived.Test.YtclcciajmfocmaaGreatHs5
set_option linter.all false
namespace Go.Abs.G
open Go.Proofs
set_option linter.unusedVariables false
set_option linter.unusedSimpArgs false

theorem behind13_spec (m : Model) (l : List DCut) (hm : zModel m) (hl : l.length ≤ maxLen) : DC Tryz.prog hallmarklaw13_behind.id [.agg m.cells, vCuts l] [] (fun r H => r = .ptr 0 1 0 0 ∧ H = [ST (cutAll (domsOf m) l) []]) := by
  refine DC.picks (Q := fun r H => r = .ptr 1 1 0 0 ∧ ∃ B, H = [B, ST (cutAll (domsOf m) l) []]) ?_ ?_
  rotate_left
  · rintro r H ⟨rfl, B, rfl⟩
    exact ⟨[1], ⟨by simp, by simp, by simp, by simp⟩, by simp, by simp [V.ids], rfl, by simp [sub]⟩
  have hM : (maxLen : Int) ≤ 9223372036854775807 := by decide
  refine DC.of hallmarklaw13_behind.ok (by simp) ?_
  unfold hallmarklaw13_behind.ir
  obtain ⟨B, hB⟩ : ∃ B, B = O.mem false [] [m.cells] := ⟨_, rfl⟩
  have hBr : B.refs = [] := by rw [hB]; rfl
  refine vc_cut (At [(1, vCuts l), (2, .ptr 0 1 0 0)] [B]) (by simp -dsimp [At, hB, Model.cells, vVars, vCons, vTerms]) ?_
  try clear h
  rintro ⟨sl, hp, bs⟩ ⟨rfl, h⟩
  simp only [sls_cons, sls_one, sls_nil] at h
  refine vc_cut (At [(1, vCuts l), (5, .ptr 1 1 0 0)] [B, ST (domsOf m) []]) ?_ ?_
  · simp -dsimp [h, hB, Model.cells, vVars, vCons, vTerms]
    refine gcallo (newT m hm.1) (by simp -dsimp [h, Model.cells, vVars, vCons, vTerms]) (by simp [Model.cells, vVars, vCons, vTerms]) (by simp) ?_
    simp -dsimp [h, At, hB, Model.cells, vVars, vCons, vTerms]
  try clear h
  rintro ⟨sl, hp, bs⟩ ⟨rfl, h⟩
  simp only [sls_cons, sls_one, sls_nil] at h
  refine vc_cut (At [(5, .ptr 1 1 0 0)] [B, ST (cutAll (domsOf m) l) []]) ?_ ?_
  · refine vc_cut (At [(1, vCuts l), (5, .ptr 1 1 0 0), (6, V.i 0)] [B, ST (domsOf m) []]) (by simp -dsimp [h, At]) ?_
    try clear h
    rintro ⟨sl, hp, bs⟩ ⟨rfl, h⟩
    simp only [sls_cons, sls_one, sls_nil] at h
    refine vc_block_of (vc_upto 2 (by simp) l.length (fun i st => At [(1, vCuts l), (5, .ptr 1 1 0 0), (6, V.i i)] [B, ST (cutAll (domsOf m) (l.take i)) []] st) ⟨rfl, by simpa using h⟩ ?_)
    clear h
    rintro i ⟨sl, hp, bs⟩ hi ⟨rfl, h⟩
    simp only [sls_cons, sls_one] at h
    unfold hallmarklaw13_behind.b0
    have ht : Two (cutAll (domsOf m) (l.take i)) [] := cutAll_two (Two.new m) _
    by_cases hil : i < l.length
    · have hw : IntKind.i64.wrap ((i : Int) + 1) = ((i + 1 : Nat) : Int) := by rw [wrap64] <;> omega
      have hc := cutAll_take (domsOf m) l hil
      obtain ⟨c, hcc⟩ : ∃ c, c = l[i] := ⟨_, rfl⟩
      rw [← hcc] at hc
      obtain ⟨s, hs⟩ : ∃ s, s = cutAll (domsOf m) (l.take i) := ⟨_, rfl⟩
      rw [← hs] at ht hc
      rw [← hs]
      simp -dsimp [h, hil, vCuts, ← hcc, DCut.cells]
      refine gcallm1 (cutT ht c.k c.x c.v) 1 (by simp -dsimp [h, addAll]) (by simp -dsimp [h]) (by simp) (by simp) (by simp) (by simp -dsimp [h, idx]) (by simp) ?_
      simp -dsimp [h, hil, hw, At, hc, hBr]
      rfl
    · have hil' : i = l.length := by omega
      subst hil'
      simp -dsimp [h, At, vCuts]
  try clear h
  rintro ⟨sl, hp, bs⟩ ⟨rfl, h⟩
  simp only [sls_cons, sls_one, sls_nil] at h
  simp -dsimp [h, hallmarklaw13_behind.rs]

def hallCells (fr to : Int) (xs : List Int) : List V := [V.i fr, V.i to, vInts xs]
theorem inside13_spec {s : List Dom} {ms : List (List Dom)} (hs : Two s ms) (fr to : Int) (xs : List Int) (hx : xs.length ≤ 1000000) :
    DC Tryz.prog hallmarklaw13_inside.id [.agg (hallCells fr to xs), .ptr 0 1 0 0] [ST s ms] (fun r H => r = .bool (xs.all fun x => decide (fr ≤ loB s x) && decide (hiB s x ≤ to)) ∧ H = [ST s ms]) := by
  refine DC.picks (Q := fun r H => r = .bool (xs.all fun x => decide (fr ≤ loB s x) && decide (hiB s x ≤ to)) ∧ ∃ E, H = ST s ms :: E) ?_ ?_
  rotate_left
  · rintro r H ⟨rfl, E, rfl⟩
    exact ⟨[0], ⟨by simp, by simp, by simp, by simp⟩, by simp, by simp [V.ids], rfl, by simp [sub]⟩
  refine DC.of hallmarklaw13_inside.ok (by simp) ?_
  unfold hallmarklaw13_inside.ir
  obtain ⟨B, hB⟩ : ∃ B, B = O.mem false [] [hallCells fr to xs] := ⟨_, rfl⟩
  have hBr : B.refs = [] := by rw [hB]; rfl
  refine vc_cut (At [(1, .ptr 0 1 0 0), (2, .ptr 1 1 0 0)] [ST s ms, B]) (by simp -dsimp [At, hB, hallCells, vInts]) ?_
  try clear h
  rintro ⟨sl, hp, bs⟩ ⟨rfl, h⟩
  simp only [sls_cons, sls_one, sls_nil] at h
  refine vc_cut (fun st => (xs.all fun x => decide (fr ≤ loB s x) && decide (hiB s x ≤ to)) = true ∧ st.hp = [ST s ms, B]) ?_ ?_
  · refine vc_cut (At [(1, .ptr 0 1 0 0), (2, .ptr 1 1 0 0), (5, V.i 0)] [ST s ms, B]) (by simp -dsimp [h, At]) ?_
    try clear h
    rintro ⟨sl, hp, bs⟩ ⟨rfl, h⟩
    simp only [sls_cons, sls_one, sls_nil] at h
    refine vc_block_of (vc_upto 2 (by simp) xs.length (fun i st => ((xs.take i).all fun x => decide (fr ≤ loB s x) && decide (hiB s x ≤ to)) = true ∧ At [(1, .ptr 0 1 0 0), (2, .ptr 1 1 0 0), (5, V.i i)] [ST s ms, B] st) ⟨rfl, rfl, by simpa using h⟩ ?_)
    clear h
    rintro i ⟨sl, hp, bs⟩ hi ⟨hf, rfl, h⟩
    simp only [sls_cons, sls_one] at h
    unfold hallmarklaw13_inside.b0
    by_cases hil : i < xs.length
    · have hil' : (i : Int) < xs.length := by omega
      have hw : IntKind.i64.wrap ((i : Int) + 1) = ((i + 1 : Nat) : Int) := by rw [wrap64] <;> omega
      obtain ⟨x, hxx⟩ : ∃ x, x = xs[i] := ⟨_, rfl⟩
      have hxm : x ∈ xs := by rw [hxx]; exact List.getElem_mem _
      have htk : ((xs.take (i + 1)).all fun x => decide (fr ≤ loB s x) && decide (hiB s x ≤ to)) = (decide (fr ≤ loB s x) && decide (hiB s x ≤ to)) := by
        rw [List.take_succ_eq_append_getElem hil, List.all_append, hf, ← hxx]; simp
      have hno : (decide (fr ≤ loB s x) && decide (hiB s x ≤ to)) = false → (xs.all fun x => decide (fr ≤ loB s x) && decide (hiB s x ≤ to)) = false := fun h0 => by
        rw [List.all_eq_false]; exact ⟨x, hxm, by rw [h0]; simp⟩
      by_cases h1 : fr ≤ loB s x
      · have h1' : ¬ loB s x < fr := by omega
        by_cases h2 : hiB s x ≤ to
        · have h2' : ¬ to < hiB s x := by omega
          simp -dsimp [h, hil, hil', hB, hallCells, vInts, ← hxx]
          refine gcalla1 (loT hs x) 0 (by simp -dsimp [h, hB, hallCells, vInts, h1', hil, hil', ← hxx, addAll]) (by simp) (by simp) (by simp) (by simp) (by simp -dsimp [h, hB, hallCells, vInts, h1', hil, hil', ← hxx]) (by simp -dsimp [h, hB, hallCells, vInts, h1', hil, hil', ← hxx, idx]) (by simp) ?_
          simp -dsimp [h, hB, hallCells, vInts, h1', hil, hil', ← hxx]
          refine gcalla1 (hiT hs x) 0 (by simp -dsimp [h, hB, hallCells, vInts, h1', h2', At, hw, htk, h1, h2, hil, hil', ← hxx, addAll]) (by simp) (by simp) (by simp) (by simp) (by simp -dsimp [h, hB, hallCells, vInts, h1', h2', At, hw, htk, h1, h2, hil, hil', ← hxx]) (by simp -dsimp [h, hB, hallCells, vInts, h1', h2', At, hw, htk, h1, h2, hil, hil', ← hxx, idx]) (by simp) ?_
          simp -dsimp [h, hB, hallCells, vInts, h1', h2', At, hw, htk, h1, h2, hil, hil', ← hxx]
        · have h2' : to < hiB s x := by omega
          have hg := hno (by simp [h2])
          simp -dsimp [h, hil, hil', hB, hallCells, vInts, ← hxx]
          refine gcalla1 (loT hs x) 0 (by simp -dsimp [h, hB, hallCells, vInts, h1', hil, hil', ← hxx, addAll]) (by simp) (by simp) (by simp) (by simp) (by simp -dsimp [h, hB, hallCells, vInts, h1', hil, hil', ← hxx]) (by simp -dsimp [h, hB, hallCells, vInts, h1', hil, hil', ← hxx, idx]) (by simp) ?_
          simp -dsimp [h, hB, hallCells, vInts, h1', hil, hil', ← hxx]
          refine gcalla1 (hiT hs x) 0 (by simp -dsimp [h, hB, hallCells, vInts, h1', h2', hil, hil', ← hxx, hallmarklaw13_inside.rs, hg, addAll]) (by simp) (by simp) (by simp) (by simp) (by simp -dsimp [h, hB, hallCells, vInts, h1', h2', hil, hil', ← hxx, hallmarklaw13_inside.rs, hg]) (by simp -dsimp [h, hB, hallCells, vInts, h1', h2', hil, hil', ← hxx, hallmarklaw13_inside.rs, hg, idx]) (by simp) ?_
          simp -dsimp [h, hB, hallCells, vInts, h1', h2', hil, hil', ← hxx, hallmarklaw13_inside.rs, hg]
      · have h1' : loB s x < fr := by omega
        have hg := hno (by simp [h1])
        simp -dsimp [h, hil, hil', hB, hallCells, vInts, ← hxx]
        refine gcalla1 (loT hs x) 0 (by simp -dsimp [h, hB, hallCells, vInts, h1', hil, hil', ← hxx, hallmarklaw13_inside.rs, hg, addAll]) (by simp) (by simp) (by simp) (by simp) (by simp -dsimp [h, hB, hallCells, vInts, h1', hil, hil', ← hxx, hallmarklaw13_inside.rs, hg]) (by simp -dsimp [h, hB, hallCells, vInts, h1', hil, hil', ← hxx, hallmarklaw13_inside.rs, hg, idx]) (by simp) ?_
        simp -dsimp [h, hB, hallCells, vInts, h1', hil, hil', ← hxx, hallmarklaw13_inside.rs, hg]
    · have hil' : ¬ (i : Int) < xs.length := by omega
      have e : xs.take i = xs := List.take_of_length_le (by omega)
      rw [e] at hf
      simp -dsimp [h, hil', hB, hallCells, vInts]
      simpa using hf
  · rintro ⟨sl, hp, bs⟩ ⟨he, rfl⟩
    simp -dsimp [hallmarklaw13_inside.rs, he]
end Go.Abs.G


namespace Go.Abs.G
open Go.Proofs
set_option linter.unusedVariables false
set_option linter.unusedSimpArgs false

/-- The value that is chosen for a variable. -/
def valW (s : List Dom) (any : List Int) (x : Nat) : Int := (valsB s x).getD (if x < any.length then (any.getD x 0 % ((valsB s x).length : Int)).toNat else 0) 0
def withinW (s : List Dom) (any : List Int) (n : Nat) : List Int := (List.range n).map (valW s any)
theorem withinW_succ (s : List Dom) (any : List Int) (n : Nat) : withinW s any (n + 1) = withinW s any n ++ [valW s any n] := by
  unfold withinW; rw [List.range_succ, List.map_append]; rfl
theorem valW_mem {s : List Dom} (hs : ∀ d ∈ s, DG d) (any : List Int) {x : Nat} (hx : x < s.length) : valW s any x ∈ valsB s x := by
  have hne := vals_ne hs (x := (x : Int)) (by simp [isB, hx])
  have hl : 0 < (valsB s x).length := List.length_pos_iff.2 hne
  unfold valW
  split
  · have h0 : 0 ≤ any.getD x 0 % ((valsB s x).length : Int) := Int.emod_nonneg _ (by omega)
    have h1 : any.getD x 0 % ((valsB s x).length : Int) < (valsB s x).length := Int.emod_lt_of_pos _ (by omega)
    have h2 : (any.getD x 0 % ((valsB s x).length : Int)).toNat < (valsB s x).length := by omega
    rw [List.getD_eq_getElem?_getD, List.getElem?_eq_getElem h2]; exact List.getElem_mem h2
  · rw [List.getD_eq_getElem?_getD, List.getElem?_eq_getElem hl]; exact List.getElem_mem hl

theorem within13_spec {s : List Dom} {ms : List (List Dom)} (hs : Two s ms) (any : List Int) (ha : any.length ≤ 1000000) :
    DC Tryz.prog hallmarklaw13_within.id [.ptr 0 1 0 0, vInts any] [ST s ms] (fun r H => r = vInts (withinW s any s.length) ∧ H = [ST s ms]) := by
  refine DC.picks (Q := fun r H => r = vInts (withinW s any s.length) ∧ ∃ E, H = ST s ms :: E) ?_ ?_
  rotate_left
  · rintro r H ⟨rfl, E, rfl⟩
    exact ⟨[0], ⟨by simp, by simp, by simp, by simp⟩, by simp, by simp [V.ids, vInts], by simp, by simp [sub]⟩
  refine DC.of hallmarklaw13_within.ok (by simp) ?_
  unfold hallmarklaw13_within.ir
  have hn := hs.n
  refine vc_cut (At [(0, .ptr 0 1 0 0), (1, vInts any)] [ST s ms]) (by simp -dsimp [At]) ?_
  try clear h
  rintro ⟨sl, hp, bs⟩ ⟨rfl, h⟩
  simp only [sls_cons, sls_one, sls_nil] at h
  refine vc_cut (At [(0, .ptr 0 1 0 0), (1, vInts any), (5, nilS)] [ST s ms]) (by simp -dsimp [h, At]) ?_
  try clear h
  rintro ⟨sl, hp, bs⟩ ⟨rfl, h⟩
  simp only [sls_cons, sls_one, sls_nil] at h
  refine vc_cut (fun st => (withinW s any s.length = [] ∧ gt st.sl 5 = nilS ∧ st.hp = [ST s ms]) ∨ (gt st.sl 5 = .own 2 1 0 s.length s.length ∧ st.hp = [ST s ms, .res, .mem false [] (ri (withinW s any s.length))])) ?_ ?_
  · refine vc_cut (At [(0, .ptr 0 1 0 0), (1, vInts any), (5, nilS), (6, V.i 0)] [ST s ms]) (by simp -dsimp [h, At]) ?_
    try clear h
    rintro ⟨sl, hp, bs⟩ ⟨rfl, h⟩
    simp only [sls_cons, sls_one, sls_nil] at h
    refine vc_block_of (vc_upto 3 (by simp) s.length (fun i st => (i = 0 ∧ At [(0, .ptr 0 1 0 0), (1, vInts any), (5, nilS), (6, V.i i)] [ST s ms] st) ∨ (0 < i ∧ At [(0, .ptr 0 1 0 0), (1, vInts any), (5, .own 2 1 0 i i), (6, V.i i)] [ST s ms, .res, .mem false [] (ri (withinW s any i))] st)) (.inl ⟨rfl, rfl, by simpa using h⟩) ?_)
    clear h
    rintro i ⟨sl, hp, bs⟩ hi hh
    unfold hallmarklaw13_within.b0
    by_cases hil : i < s.length
    · have hil' : (i : Int) < s.length := by omega
      have hw : IntKind.i64.wrap ((i : Int) + 1) = ((i + 1 : Nat) : Int) := by rw [wrap64] <;> omega
      have hsu := withinW_succ s any i
      have hne := vals_ne hs.d (x := (i : Int)) (by simp [isB, hil])
      obtain ⟨vs, hvs⟩ : ∃ vs, vs = valsB s i := ⟨_, rfl⟩
      have hvl : 0 < vs.length := by rw [hvs]; exact List.length_pos_iff.2 hne
      have hvl' : (0 : Int) < vs.length := by omega
      have hv64 : vs.length ≤ 64 := by rw [hvs]; exact valsB_small hs.d i
      have hval := valuesT hs (i : Int)
      rw [← hvs] at hval
      obtain ⟨k, hk, hkl, hvw⟩ : ∃ k : Nat, (k : Int) = (if i < any.length then any.getD i 0 % (vs.length : Int) else 0) ∧ k < vs.length ∧ valW s any i = vs.getD k 0 := by
        by_cases hia : i < any.length
        · have h0 : 0 ≤ any.getD i 0 % (vs.length : Int) := Int.emod_nonneg _ (by omega)
          have h1 : any.getD i 0 % (vs.length : Int) < vs.length := Int.emod_lt_of_pos _ (by omega)
          exact ⟨(any.getD i 0 % (vs.length : Int)).toNat, by rw [if_pos hia]; omega, by omega, by unfold valW; rw [if_pos hia, ← hvs]⟩
        · exact ⟨0, by rw [if_neg hia]; rfl, hvl, by unfold valW; rw [if_neg hia, ← hvs]⟩
      obtain ⟨v, hv⟩ : ∃ v, v = valW s any i := ⟨_, rfl⟩
      have hvg : ∀ hh, vs[k]'hh = v := fun hh => by rw [hv, hvw]; simp [List.getD, hkl]
      rw [← hv] at hsu
      have hkl' : (k : Int) < vs.length := by omega
      have hb : ((i : Int) + 1) * 8 ≤ 140737488355328 := by omega
      have rl : (ri (withinW s any i)).length = i := by rw [ri_len]; simp [withinW]
      by_cases hia : i < any.length
      · have hia' : (i : Int) < any.length := by omega
        rw [if_pos hia] at hk
        have eg : any.getD i 0 = any[i] := by simp [List.getD, hia]
        have hpl := place13_spec any[i] vs.length hvl' (by omega)
        rw [← eg, ← hk, eg] at hpl
        rcases hh with ⟨he, rfl, h⟩ | ⟨he, rfl, h⟩ <;> simp only [sls_cons, sls_one] at h
        · simp -dsimp [h]
          refine gcallm1 (varsT hs) 0 (by simp -dsimp [h, addAll]) (by simp -dsimp [h]) (by simp) (by simp) (by simp) (by simp -dsimp [h, idx]) (by simp) ?_
          simp -dsimp [h, hil']
          refine gcallm1 (hval) 0 (by simp -dsimp [h, addAll]) (by simp -dsimp [h]) (by simp) (by simp) (by simp) (by simp -dsimp [h, idx]) (by simp) ?_
          simp -dsimp [h, hil', vInts, hia, hia', hvl, hvl']
          refine gcall (hpl) (by simp -dsimp [h, vInts, hvl, hvl', hkl, hkl', hvg, At, hw]) (by simp -dsimp [h, vInts, hvl, hvl', hkl, hkl', hvg, At, hw]) ?_
          simp -dsimp [h, vInts, hvl, hvl', hkl, hkl', hvg, At, hw]
          exact ⟨hil, by rw [hsu]; subst he; simp [ri, withinW], he⟩
        · simp -dsimp [h]
          refine gcallm1 (varsT hs) 0 (by simp -dsimp [h, addAll]) (by simp -dsimp [h]) (by simp) (by simp) (by simp) (by simp -dsimp [h, idx]) (by simp) ?_
          simp -dsimp [h, hil']
          refine gcallm1 (hval) 0 (by simp -dsimp [h, addAll]) (by simp -dsimp [h]) (by simp) (by simp) (by simp) (by simp -dsimp [h, idx]) (by simp) ?_
          simp -dsimp [h, hil', vInts, hia, hia', hvl, hvl']
          refine gcall (hpl) (by simp -dsimp [h, vInts, hvl, hvl', hkl, hkl', hvg, At, hw, rl, hb]) (by simp -dsimp [h, vInts, hvl, hvl', hkl, hkl', hvg, At, hw, rl, hb]) ?_
          simp -dsimp [h, vInts, hvl, hvl', hkl, hkl', hvg, At, hw, rl, hb]
          exact ⟨hil, by rw [hsu]; simp [ri]⟩
      · have hia' : ¬ (i : Int) < any.length := by omega
        rw [if_neg hia] at hk
        obtain rfl : k = 0 := by omega
        rcases hh with ⟨he, rfl, h⟩ | ⟨he, rfl, h⟩ <;> simp only [sls_cons, sls_one] at h
        · simp -dsimp [h]
          refine gcallm1 (varsT hs) 0 (by simp -dsimp [h, addAll]) (by simp -dsimp [h]) (by simp) (by simp) (by simp) (by simp -dsimp [h, idx]) (by simp) ?_
          simp -dsimp [h, hil']
          refine gcallm1 (hval) 0 (by simp -dsimp [h, addAll]) (by simp -dsimp [h]) (by simp) (by simp) (by simp) (by simp -dsimp [h, idx]) (by simp) ?_
          simp -dsimp [h, hil', vInts, hia, hia', hvl, hvl', hvg, At, hw]
          exact ⟨hil, by rw [hsu]; subst he; simp [ri, withinW], he⟩
        · simp -dsimp [h]
          refine gcallm1 (varsT hs) 0 (by simp -dsimp [h, addAll]) (by simp -dsimp [h]) (by simp) (by simp) (by simp) (by simp -dsimp [h, idx]) (by simp) ?_
          simp -dsimp [h, hil']
          refine gcallm1 (hval) 0 (by simp -dsimp [h, addAll]) (by simp -dsimp [h]) (by simp) (by simp) (by simp) (by simp -dsimp [h, idx]) (by simp) ?_
          simp -dsimp [h, hil', vInts, hia, hia', hvl, hvl', hvg, At, hw, rl, hb]
          exact ⟨hil, by rw [hsu]; simp [ri]⟩
    · have hil' : ¬ (i : Int) < s.length := by omega
      have e : i = s.length := by omega
      rcases hh with ⟨he, rfl, h⟩ | ⟨he, rfl, h⟩ <;> simp only [sls_cons, sls_one] at h
      · have h0 : withinW s any s.length = [] := by rw [← e, he]; rfl
        simp -dsimp [h]
        refine gcallm1 (varsT hs) 0 (by simp -dsimp [h, addAll]) (by simp -dsimp [h]) (by simp) (by simp) (by simp) (by simp -dsimp [h, idx]) (by simp) ?_
        simp -dsimp [h, hil', h0]
      · simp -dsimp [h]
        refine gcallm1 (varsT hs) 0 (by simp -dsimp [h, addAll]) (by simp -dsimp [h]) (by simp) (by simp) (by simp) (by simp -dsimp [h, idx]) (by simp) ?_
        simp -dsimp [h, hil', e]
  clear h
  obtain ⟨P, hP⟩ : ∃ P, P = withinW s any s.length := ⟨_, rfl⟩
  have hPl : P.length = s.length := by rw [hP]; simp [withinW]
  rw [← hP, ← hPl]
  have ht : List.take P.length (ri P) = ri P := List.take_of_length_le (by rw [ri_len]; exact Nat.le_refl _)
  rintro ⟨sl, hp, bs⟩ (⟨he, h, rfl⟩ | ⟨h, rfl⟩)
  · simp -dsimp [h, he, hallmarklaw13_within.rs, vInts]
  · simp -dsimp [h, hallmarklaw13_within.rs, vInts, ht, ri_len]
    rfl
end Go.Abs.G


/- A nil slice in a slot, as a slice of one's own without elements. -/
namespace Go.Abs
set_option linter.unusedVariables false
theorem Weak.ownnil (t es : Nat) {st : St} (ht : gt st.sl t = .a (.slice none 0 0)) : Weak st { st with sl := up st.sl t (.own st.hp.length es 0 0 0), hp := st.hp ++ [.mem false [] []] } := by
  refine ⟨rfl, fun k hk => ?_, by simp, fun w β F N a hR => ?_⟩
  · show (st.hp ++ _)[k]? = _
    rw [List.getElem?_append_left (lt_of_get hk)]; exact hk
  · have a1 := adv_res (F := F) hR.hok 1
    have hg : (st.hp ++ List.replicate 1 O.res)[st.hp.length]? = some O.res := by simp
    have a2 := new_nil (es := es) (refs := []) (F := F) a1.hok hg
    have e : (st.hp ++ List.replicate 1 O.res).set st.hp.length (.mem false [] []) = st.hp ++ [.mem false [] []] := by
      rw [List.set_append, if_neg (by omega), Nat.sub_self]; rfl
    have a3 := nil_own (es := es) (refs := []) (ad := none) (hp := w.heap) (F := F) (β := β) hg
    rw [e] at a2 a3
    have adv := a1.trans a2
    refine ⟨_, adv, ?_⟩
    have hR2 : Rel w _ F N { st with hp := st.hp ++ [.mem false [] []] } a := hR.adv adv
    have hx := hR.sl t
    rw [ht] at hx
    refine hR2.slot ?_
    rw [hx.of_a]; exact a3
end Go.Abs

namespace Go.Abs.G
open Go.Proofs
set_option linter.unusedVariables false
set_option linter.unusedSimpArgs false

theorem firstAt_find {α : Type} (p : α → Bool) : ∀ (l : List α) (i : Nat), (firstAt p i l = -1 ∧ l.find? p = none) ∨ ∃ (k : Nat) (x : α), firstAt p i l = ((i + k : Nat) : Int) ∧ l.find? p = some x ∧ l[k]? = some x
  | [], i => .inl ⟨rfl, rfl⟩
  | x :: l, i => by
    by_cases hp : p x = true
    · exact .inr ⟨0, x, by simp [firstAt, hp], by simp [hp], rfl⟩
    · rcases firstAt_find p l (i + 1) with ⟨h1, h2⟩ | ⟨k, y, h1, h2, h3⟩
      · exact .inl ⟨by simp [firstAt, hp, h1], by simp [hp, h2]⟩
      · exact .inr ⟨k + 1, y, by simp only [firstAt, hp, h1]; simp; omega, by simp [hp, h2], by simpa using h3⟩

def mkC (F : List Iv) (l : List Int) (x v : Int) : Option Cs := (F.find? (takes l x v)).map fun i => ⟨x, v, i.a, i.b, hallX i l⟩
def toldC (F : List Iv) (s : List Dom) (l u : List Int) : List Cs := u.flatMap fun x => (valsB s x).filterMap (mkC F l x)
def Iv.fullB (i : Iv) : Bool := decide ((i.w.length : Int) = i.b - i.a + 1)
def fulls (L : List Iv) : List Iv := L.filter Iv.fullB
theorem toldC_succ (F : List Iv) (s : List Dom) (l u : List Int) {j : Nat} (h : j < u.length) : toldC F s l (u.take (j + 1)) = toldC F s l (u.take j) ++ (valsB s u[j]).filterMap (mkC F l u[j]) := by
  unfold toldC; rw [List.take_succ_eq_append_getElem h, List.flatMap_append]; simp
theorem fm_succ {α β : Type} (f : α → Option β) (l : List α) {k : Nat} (h : k < l.length) : (l.take (k + 1)).filterMap f = (l.take k).filterMap f ++ (match f l[k] with | none => [] | some y => [y]) := by
  rw [List.take_succ_eq_append_getElem h, List.filterMap_append]
  rfl

section
variable {s : List Dom} {ms : List (List Dom)} (hs : Two s ms) {l : List Int} (hll : l.length ≤ 1000) {F : List Iv} (hF : ∀ i ∈ F, (∀ p ∈ i.w, p < l.length) ∧ i.w.length ≤ l.length) (hFl : F.length ≤ 1000000)
include hll hF hFl
/-- The loop over one variable's values. -/
theorem cuts_b2 {u : List Int} {m j n : Nat} {x : Int} (hx : x ∈ l) {vs : List Int} (hvs : vs.length ≤ 64) {C0 : List Cs} (hC0 : C0.length ≤ 1000000) {Fz : O} (hFz : Fz.refs = []) {Q : Ex → St → Prop} {st : St}
    (hst : At [(1, .ptr 0 1 0 0), (6, .ptr 1 1 0 0), (7, .view 3 (F.map Iv.cells)), (11, .own 3 7 0 C0.length C0.length), (13, .ptr 5 1 0 0), (50, .own 4 1 0 m n), (51, V.i m), (52, V.i j), (58, vInts vs), (59, V.i vs.length), (60, V.i 0)]
      [ST s ms, .mem false [] [[vInts l]], Fz, .mem false [] (C0.map Cs.cells), .mem false [] (ri u), .mem false [] [[V.i x]]] st)
    (hQ : ∀ st' : St, At [(1, .ptr 0 1 0 0), (6, .ptr 1 1 0 0), (7, .view 3 (F.map Iv.cells)), (11, .own 3 7 0 (C0 ++ vs.filterMap (mkC F l x)).length (C0 ++ vs.filterMap (mkC F l x)).length), (50, .own 4 1 0 m n), (51, V.i m), (52, V.i j)]
      [ST s ms, .mem false [] [[vInts l]], Fz, .mem false [] ((C0 ++ vs.filterMap (mkC F l x)).map Cs.cells), .mem false [] (ri u), .mem false [] [[V.i x]]] st' → Q (.exit 5) st') :
    vc Tryz.prog (.loop hall_Cuts.b2) Q st := by
  obtain ⟨hh, h⟩ := hst
  obtain ⟨A, hA⟩ : ∃ A, A = V.view 3 (F.map Iv.cells) := ⟨_, rfl⟩
  obtain ⟨P, hP⟩ : ∃ P, P = O.mem false [] [[vInts l]] := ⟨_, rfl⟩
  have hPr : P.refs = [] := by rw [hP]; rfl
  have hPm : P.isMem = true := by rw [hP]; rfl
  have hPw : P.rows = [[vInts l]] := by rw [hP]; rfl
  have hPl : True := trivial
  have hAz : ∀ H, V.fz H A = A := fun H => by rw [hA]; rfl
  have hAp : ∀ H, V.fzP H A := fun H => by rw [hA]; trivial
  have hAi : A.ids = [] := by rw [hA]; rfl
  have hix : ∀ v, Pf Tryz.prog slices_IndexFunc_Lhall_interval_hall_interval.id [A, .fn (.func hall_Cuts_1.id) [] [.ref [V.i v] 0, .ref [vInts l] 0, .ref [V.i x] 0]] (V.i (firstAt (takes l x v) 0 F)) := fun v => by
    rw [hA]
    exact index_iv (by simp) (by simp [V.idsL, vInts]) (fun t ht => cuts1_spec t l x v hx hll (hF t ht).1 (Nat.le_trans (hF t ht).2 hll)) (by omega)
  rw [← hA] at h hQ
  rw [← hP] at hh hQ
  refine vc_upto 6 (by rw [hh]; simp) vs.length (fun k st => ∃ C, C = C0 ++ (vs.take k).filterMap (mkC F l x) ∧ At [(1, .ptr 0 1 0 0), (6, .ptr 1 1 0 0), (7, A), (11, .own 3 7 0 C.length C.length), (13, .ptr 5 1 0 0), (50, .own 4 1 0 m n), (51, V.i m), (52, V.i j), (58, vInts vs), (59, V.i vs.length), (60, V.i k)]
      [ST s ms, P, Fz, .mem false [] (C.map Cs.cells), .mem false [] (ri u), .mem false [] [[V.i x]]] st) ⟨C0, by simp, hh, h⟩ ?_
  clear hh h
  rintro k ⟨sl, hp, bs⟩ hk ⟨C, hC, rfl, h⟩
  simp only [sls_cons, sls_one] at h
  unfold hall_Cuts.b2
  by_cases hil : k < vs.length
  · have hil' : (k : Int) < vs.length := by omega
    have hw : IntKind.i64.wrap ((k : Int) + 1) = ((k + 1 : Nat) : Int) := by rw [wrap64] <;> omega
    have hsu := fm_succ (mkC F l x) vs hil
    obtain ⟨v, hv⟩ : ∃ v, v = vs[k] := ⟨_, rfl⟩
    rw [← hv] at hsu
    have hCl : C.length ≤ C0.length + 64 := by
      rw [hC, List.length_append]
      have := List.length_filterMap_le (mkC F l x) (vs.take k)
      have := List.length_take_le k vs
      omega
    have hb : ((C.length : Int) + 1) * 72 ≤ 140737488355328 := by omega
    rcases firstAt_find (takes l x v) F 0 with ⟨g1, g2⟩ | ⟨q, i, g1, g2, g3⟩
    · have hm : mkC F l x v = none := by simp [mkC, g2]
      simp -dsimp [h, hil, hil', vInts, ← hv]
      refine gcallb (hix v) (by simp -dsimp [h, V.fzL, V.fz, hPw, vInts, hAz]) (by simp -dsimp [h, V.fzPL, V.fzP, hPm, hPw, hPr, hAp]) (by simp) rfl ?_
      simp -dsimp [h, g1, At, hw, hPr, hFz, hAi, hil, vInts]
      simp [hC, hsu, hm]
    · rw [Nat.zero_add] at g1
      have hm : mkC F l x v = some ⟨x, v, i.a, i.b, hallX i l⟩ := by simp [mkC, g2]
      have hqF : q < F.length := (List.getElem?_eq_some_iff.1 g3).1
      have hqF' : (q : Int) < F.length := by omega
      have hFq : ∀ hh, F[q]'hh = i := fun hh => (List.getElem?_eq_some_iff.1 g3).2
      have him : i ∈ F := List.mem_of_getElem? g3
      have hsp := hall_spec i l (hF i him).1 (by have := (hF i him).2; omega)
      have hcl : i.cells = [V.i i.a, V.i i.b, vInts (pN i.w)] := rfl
      rw [hcl] at hsp
      simp -dsimp [h, hil, hil', vInts, ← hv]
      refine gcallb (hix v) (by simp -dsimp [h, V.fzL, V.fz, hPw, vInts, hAz]) (by simp -dsimp [h, V.fzPL, V.fzP, hPm, hPw, hPr, hAp]) (by simp) rfl ?_
      simp -dsimp [h, g1, hA, hqF, hqF', hFq, hcl, hP, vInts]
      refine gcall (hsp) (by simp -dsimp [h, At, hw, hil, hallV, vInts, hb, hPr, hFz, hAi]) (by simp -dsimp [h, At, hw, hil, hallV, vInts, hb, hPr, hFz, hAi]) ?_
      simp -dsimp [h, At, hw, hil, hallV, vInts, hb, hPr, hFz, hAi]
      refine ⟨⟨hP.symm, ?_⟩, ?_⟩ <;> simp [hC, hsu, hm, Cs.cells, vInts, hA]
      omega
  · have hil' : ¬ (k : Int) < vs.length := by omega
    have e : vs.take k = vs := List.take_of_length_le (by omega)
    rw [e] at hC
    subst hC
    simp -dsimp [h, hil', vInts]
    refine hQ _ ?_
    simp -dsimp [h, At, hA, hP]

include hs
/-- The loop over the variables. -/
theorem cuts_b1 {u : List Int} {m n : Nat} (hm : m ≤ n) (hn : u.length = n) (hn2 : n ≤ 1000) (hu : ∀ x ∈ u.take m, x ∈ l) {Fz : O} (hFz : Fz.refs = []) {Q : Ex → St → Prop} {st : St}
    (hst : At [(1, .ptr 0 1 0 0), (6, .ptr 1 1 0 0), (7, .view 3 (F.map Iv.cells)), (11, .own 3 7 0 0 0), (50, .own 4 1 0 m n), (51, V.i m), (52, V.i 0)]
      [ST s ms, .mem false [] [[vInts l]], Fz, .mem false [] [], .mem false [] (ri u)] st)
    (hQ : ∀ st' : St, At [(11, .own 3 7 0 (toldC F s l (u.take m)).length (toldC F s l (u.take m)).length)]
      [ST s ms, .mem false [] [[vInts l]], Fz, .mem false [] ((toldC F s l (u.take m)).map Cs.cells), .mem false [] (ri u)] st' → Q (.exit 3) st') :
    vc Tryz.prog (.loop hall_Cuts.b1) Q st := by
  obtain ⟨hh, h⟩ := hst
  obtain ⟨A, hA⟩ : ∃ A, A = V.view 3 (F.map Iv.cells) := ⟨_, rfl⟩
  obtain ⟨P, hP⟩ : ∃ P, P = O.mem false [] [[vInts l]] := ⟨_, rfl⟩
  have hPr : P.refs = [] := by rw [hP]; rfl
  have hAi : A.ids = [] := by rw [hA]; rfl
  have ru : (ri u).length = n := by rw [ri_len]; exact hn
  have hCl : ∀ j, j ≤ m → (toldC F s l (u.take j)).length ≤ 64 * j := by
    intro j
    induction j with
    | zero => intro _; simp [toldC]
    | succ j ih =>
      intro hj
      have := ih (by omega)
      rw [toldC_succ F s l u (by omega), List.length_append]
      have := List.length_filterMap_le (mkC F l u[j]) (valsB s u[j])
      have := valsB_small hs.d u[j]
      omega
  rw [← hA] at h
  rw [← hP] at hh
  refine vc_upto 5 (by rw [hh]; simp) m (fun j st => ∃ C, C = toldC F s l (u.take j) ∧ At [(1, .ptr 0 1 0 0), (6, .ptr 1 1 0 0), (7, A), (11, .own 3 7 0 C.length C.length), (50, .own 4 1 0 m n), (51, V.i m), (52, V.i j)]
      [ST s ms, P, Fz, .mem false [] (C.map Cs.cells), .mem false [] (ri u)] st) ⟨[], by simp [toldC], hh, h⟩ ?_
  clear hh h
  rintro j ⟨sl, hp, bs⟩ hj ⟨C, hC, rfl, h⟩
  simp only [sls_cons, sls_one] at h
  have hcj := hCl j hj
  rw [← hC] at hcj
  unfold hall_Cuts.b1
  by_cases hil : j < m
  · have hil' : (j : Int) < m := by omega
    have hw : IntKind.i64.wrap ((j : Int) + 1) = ((j + 1 : Nat) : Int) := by rw [wrap64] <;> omega
    have hjn : j < n := by omega
    have hju : j < u.length := by omega
    have hsu := toldC_succ F s l u hju
    obtain ⟨x, hx⟩ : ∃ x, x = u[j] := ⟨_, rfl⟩
    have gx : ∀ hh, (ri u)[j]'hh = [V.i x] := fun hh' => by have := ri_get (l := u) (i := j) hju; rw [List.getElem?_eq_getElem hh'] at this; rw [Option.some.inj this, hx]
    have hxl : x ∈ l := hu x (by rw [hx]; exact List.mem_take_iff_getElem.2 ⟨j, by omega, rfl⟩)
    have hval := valuesT hs x
    have hv64 := valsB_small hs.d x
    rw [← hx] at hsu
    obtain ⟨vs, hvs⟩ : ∃ vs, vs = valsB s x := ⟨_, rfl⟩
    rw [← hvs] at hval hv64 hsu
    have hb2 : ∀ st1 : St, At [(1, .ptr 0 1 0 0), (6, .ptr 1 1 0 0), (7, A), (11, .own 3 7 0 C.length C.length), (13, .ptr 5 1 0 0), (50, .own 4 1 0 m n), (51, V.i m), (52, V.i j), (58, vInts vs), (59, V.i vs.length), (60, V.i 0)]
        [ST s ms, P, Fz, .mem false [] (C.map Cs.cells), .mem false [] (ri u), .mem false [] [[V.i x]]] st1 →
        vc Tryz.prog (.loop hall_Cuts.b2) (fun e st' => e = .exit 5 ∧ At [(1, .ptr 0 1 0 0), (6, .ptr 1 1 0 0), (7, A), (11, .own 3 7 0 (C ++ vs.filterMap (mkC F l x)).length (C ++ vs.filterMap (mkC F l x)).length), (50, .own 4 1 0 m n), (51, V.i m), (52, V.i j)]
          [ST s ms, P, Fz, .mem false [] ((C ++ vs.filterMap (mkC F l x)).map Cs.cells), .mem false [] (ri u), .mem false [] [[V.i x]]] st') st1 := by
      rw [hA, hP]
      exact fun st1 h1 => cuts_b2 hll hF hFl hxl hv64 (by omega) hFz h1 fun st' h2 => ⟨rfl, h2⟩
    simp -dsimp [h, hil, hil', ru, gx, hjn, hju]
    refine gcallm1 (hval) 0 (by simp -dsimp [h, addAll]) (by simp -dsimp [h]) (by simp) (by simp) (by simp) (by simp -dsimp [h, idx]) (by simp) ?_
    simp -dsimp [h, vInts]
    show vc Tryz.prog (.loop hall_Cuts.b2) _ _
    refine vc_mono ?_ (hb2 _ ?_)
    rotate_left
    · simp -dsimp [h, At, vInts]
    intro e st' he'
    obtain ⟨rfl, d1, d2⟩ := he'
    simp only [sls_cons, sls_one] at d2
    simp -dsimp [d1, d2, At, hw, hil, hPr, hFz, hAi]
    simp [hC, hsu]
  · have hil' : ¬ (j : Int) < m := by omega
    have e : j = m := by omega
    subst e
    subst hC
    simp -dsimp [h, hil']
    refine hQ _ ?_
    simp -dsimp [h, At, hP]
end
end Go.Abs.G

namespace Go.Abs.G
open Go.Proofs
set_option linter.unusedVariables false
set_option linter.unusedSimpArgs false

theorem fulls_succ {L : List Iv} {i : Nat} (h : i < L.length) : fulls (L.take (i + 1)) = fulls (L.take i) ++ (if L[i].fullB then [L[i]] else []) := by
  unfold fulls
  rw [List.take_succ_eq_append_getElem h, List.filter_append]
  by_cases hf : L[i].fullB = true <;> simp [hf]
theorem fulls_len (L : List Iv) : (fulls L).length ≤ L.length := List.length_filter_le _ _

theorem cuts13_spec {s : List Dom} {ms : List (List Dom)} (hs : Two s ms) (xs : List Int) (hx : xs.length ≤ 1000) :
    DC Tryz.prog hall_Cuts.id [vInts xs, .ptr 0 1 0 0] [ST s ms] (fun r H => (∃ L, IvOk s (placesB s xs) L ∧ ((overB L ∧ r = .tup [nilS, .bool false]) ∨ (¬ overB L ∧ ∃ u : List Int, u.Pairwise (· < ·) ∧ (∀ x, x ∈ u ↔ x ∈ placesB s xs) ∧
      r = .tup [.view 7 ((toldC (fulls L) s (placesB s xs) u).map Cs.cells), .bool true]))) ∧ H = [ST s ms]) := by
  refine DC.trim (Q := fun r H => (∃ L, IvOk s (placesB s xs) L ∧ ((overB L ∧ r = .tup [nilS, .bool false]) ∨ (¬ overB L ∧ ∃ u : List Int, u.Pairwise (· < ·) ∧ (∀ x, x ∈ u ↔ x ∈ placesB s xs) ∧
      r = .tup [.view 7 ((toldC (fulls L) s (placesB s xs) u).map Cs.cells), .bool true]))) ∧ ∃ E, H = ST s ms :: E) ?_ ?_
  rotate_left
  · rintro r H ⟨⟨L, hL, hr⟩, E, rfl⟩
    refine ⟨1, by simp, ?_, ⟨L, hL, hr⟩, by simp⟩
    rcases hr with ⟨_, rfl⟩ | ⟨_, u, _, _, rfl⟩ <;> simp [V.ids, V.idsL]
  refine DC.of hall_Cuts.ok (by simp) ?_
  unfold hall_Cuts.ir
  obtain ⟨l, hl⟩ : ∃ l, l = placesB s xs := ⟨_, rfl⟩
  have hll : l.length ≤ 1000 := by rw [hl]; exact Nat.le_trans (List.length_filter_le _ _) hx
  have hp := places_spec hs xs (by omega)
  rw [← hl] at hp ⊢
  obtain ⟨P, hP⟩ : ∃ P, P = O.mem false [] [[vInts l]] := ⟨_, rfl⟩
  have hPr : P.refs = [] := by rw [hP]; rfl
  refine vc_cut (At [(0, vInts xs), (1, .ptr 0 1 0 0)] [ST s ms]) (by simp -dsimp [At]) ?_
  try clear h
  rintro ⟨sl, hp, bs⟩ ⟨rfl, h⟩
  simp only [sls_cons, sls_one, sls_nil] at h
  refine vc_cut (At [(1, .ptr 0 1 0 0), (6, .ptr 1 1 0 0)] [ST s ms, P]) ?_ ?_
  · simp -dsimp [h]
    refine gcallm1 hp 0 (by simp -dsimp [h, addAll, vInts]) (by simp -dsimp [h]) (by simp) (by simp) (by simp) (by simp -dsimp [h, idx, vInts]) (by simp) ?_
    simp -dsimp [h, At, hP, vInts]
  try clear h
  rintro ⟨sl, hp, bs⟩ ⟨rfl, h⟩
  simp only [sls_cons, sls_one, sls_nil] at h
  refine vc_cut (At [(1, .ptr 0 1 0 0), (6, .ptr 1 1 0 0), (7, nilS)] [ST s ms, P]) (by simp -dsimp [h, At]) ?_
  try clear h
  rintro ⟨sl, hp, bs⟩ ⟨rfl, h⟩
  simp only [sls_cons, sls_one, sls_nil] at h
  refine vc_cut (fun st => ∃ L, IvOk s l L ∧ ¬ overB L ∧ At [(1, .ptr 0 1 0 0), (6, .ptr 1 1 0 0), (7, .own 2 3 0 (fulls L).length (fulls L).length)] [ST s ms, P, .mem false [] ((fulls L).map Iv.cells)] st) ?_ ?_
  · refine vc_cut (fun st => ∃ L, IvOk s l L ∧ At [(1, .ptr 0 1 0 0), (6, .ptr 1 1 0 0), (7, .own 2 3 0 0 0), (22, .view 3 (L.map Iv.cells)), (23, V.i L.length), (24, V.i 0)] [ST s ms, P, .mem false [] []] st) ?_ ?_
    · simp -dsimp [h]
      refine ⟨_, Weak.ownnil 7 3 (by simp -dsimp [h]), ?_⟩
      simp -dsimp [h, hP]
      refine gcallm_gen (intervals_spec hs l hll) [0] (by simp -dsimp [h, addAll, vInts]) ⟨by simp, by simp, by simp, by simp⟩ (by simp -dsimp [h, idx, List.idxOf_cons, vInts]) (by simp [sub]) (by simp) ?_
      rintro r H ⟨⟨L, hL, rfl⟩, rfl⟩
      simp -dsimp [h, merge, place, At, hP]
      exact ⟨L, hL, rfl, rfl⟩
    clear h
    rintro ⟨sl, hp, bs⟩ ⟨L, hL, rfl, h⟩; simp only [sls_cons, sls_one] at h
    obtain ⟨A, hA⟩ : ∃ A, A = V.view 3 (L.map Iv.cells) := ⟨_, rfl⟩
    have hAi : A.ids = [] := by rw [hA]; rfl
    rw [← hA] at h
    refine vc_block_of (vc_upto 3 (by simp) L.length (fun i st => (∀ j (hj : j < L.length), j < i → ¬ (L[j]).over) ∧ ∃ F, F = fulls (L.take i) ∧ At [(1, .ptr 0 1 0 0), (6, .ptr 1 1 0 0), (7, .own 2 3 0 F.length F.length), (22, A), (23, V.i L.length), (24, V.i i)] [ST s ms, P, .mem false [] (F.map Iv.cells)] st) ⟨(fun j hj h => by omega), [], rfl, rfl, h⟩ ?_)
    clear h
    rintro i ⟨sl, hp, bs⟩ hi ⟨ho, F, hF, rfl, h⟩
    simp only [sls_cons, sls_one] at h
    unfold hall_Cuts.b0
    by_cases hil : i < L.length
    · have hil' : (i : Int) < L.length := by omega
      have hLn := hL.n
      have hw : IntKind.i64.wrap ((i : Int) + 1) = ((i + 1 : Nat) : Int) := by rw [wrap64] <;> omega
      have hsu := fulls_succ hil
      have hFl : F.length ≤ 1000000 := by rw [hF]; have := fulls_len (L.take i); rw [List.length_take] at this; omega
      obtain ⟨t, ht⟩ : ∃ t, t = L[i] := ⟨_, rfl⟩
      have htm : t ∈ L := by rw [ht]; exact List.getElem_mem _
      rw [← ht, ← hF] at hsu
      obtain ⟨m1, m2, m3, m4⟩ := hL.mem t htm
      obtain ⟨k1, k2⟩ := hL.lt htm
      have hsz := size13_spec t.a t.b (by omega) (by omega) m1
      have hcl : t.cells = [V.i t.a, V.i t.b, vInts (pN t.w)] := rfl
      have hpl := pN_len t.w
      have hb : ((F.length : Int) + 1) * 40 ≤ 140737488355328 := by omega
      have hnext : t.over → False ∨ True := fun _ => .inr trivial
      by_cases hov : t.b - t.a + 1 < t.w.length
      · simp -dsimp [h, hil, hil', hA, ← ht, hcl, vInts]
        refine gcall (hsz) (by simp -dsimp [h, hpl, hov, vInts, hall_Cuts.rs]) (by simp -dsimp [h, hpl, hov, vInts, hall_Cuts.rs]) ?_
        simp -dsimp [h, hpl, hov, vInts, hall_Cuts.rs]
        exact ⟨L, hL, t, htm, by unfold Iv.over; omega⟩
      · have hno : ∀ j (hj : j < L.length), j < i + 1 → ¬ (L[j]).over := fun j hj hji => by
          by_cases hje : j = i
          · subst hje; rw [← ht]; unfold Iv.over; omega
          · exact ho j hj (by omega)
        by_cases hfu : (t.w.length : Int) = t.b - t.a + 1
        · have hfb : t.fullB = true := by simp [Iv.fullB, hfu]
          rw [if_pos hfb] at hsu
          simp -dsimp [h, hil, hil', hA, ← ht, hcl, vInts]
          refine gcall (hsz) (by simp -dsimp [h, hpl, hov, hfu, vInts]) (by simp -dsimp [h, hpl, hov, hfu, vInts]) ?_
          simp -dsimp [h, hpl, hov, hfu, vInts]
          refine gcall (hsz) (by simp -dsimp [h, hpl, hov, hfu, vInts, At, hw, hil, hPr, hAi, hb]) (by simp -dsimp [h, hpl, hov, hfu, vInts, At, hw, hil, hPr, hAi, hb]) ?_
          simp -dsimp [h, hpl, hov, hfu, vInts, At, hw, hil, hPr, hAi, hb]
          refine ⟨hno, ?_⟩
          simp [hsu, hcl, vInts, hA.symm]
        · have hfb : t.fullB = false := by simp [Iv.fullB, hfu]
          rw [hfb] at hsu
          simp -dsimp [h, hil, hil', hA, ← ht, hcl, vInts]
          refine gcall (hsz) (by simp -dsimp [h, hpl, hov, hfu, vInts]) (by simp -dsimp [h, hpl, hov, hfu, vInts]) ?_
          simp -dsimp [h, hpl, hov, hfu, vInts]
          refine gcall (hsz) (by simp -dsimp [h, hpl, hov, hfu, vInts, At, hw, hil, hPr, hAi]) (by simp -dsimp [h, hpl, hov, hfu, vInts, At, hw, hil, hPr, hAi]) ?_
          simp -dsimp [h, hpl, hov, hfu, vInts, At, hw, hil, hPr, hAi]
          refine ⟨hno, ?_⟩
          simp [hsu, hcl, vInts, hA.symm]
    · have hil' : ¬ (i : Int) < L.length := by omega
      have e : L.take i = L := List.take_of_length_le (by omega)
      rw [e] at hF
      subst hF
      simp -dsimp [h, hil', At]
      exact ⟨L, hL, fun ⟨t, ht, hto⟩ => by
        obtain ⟨j, hj, rfl⟩ := List.getElem_of_mem ht
        exact ho j hj (by omega) hto, by simp⟩
  clear h
  rintro ⟨sl, hp, bs⟩ ⟨L, hL, ho, rfl, h⟩; simp only [sls_cons, sls_one] at h
  have hLn := hL.n
  have hFn := fulls_len L
  have hFm : ∀ i ∈ fulls L, (∀ p ∈ i.w, p < l.length) ∧ i.w.length ≤ l.length := fun i hi => hL.lt (List.mem_filter.1 hi).1
  obtain ⟨F, hF⟩ : ∃ F, F = fulls L := ⟨_, rfl⟩
  rw [← hF] at h hFn hFm ⊢
  have ht : List.take F.length (F.map Iv.cells) = F.map Iv.cells := List.take_of_length_le (by simp)
  refine vc_cut (At [(1, .ptr 0 1 0 0), (6, .ptr 1 1 0 0), (7, .view 3 (F.map Iv.cells)), (11, nilS)] [ST s ms, P, .mem true [] (F.map Iv.cells)]) (by simp -dsimp [h, At, ht]) ?_
  try clear h
  rintro ⟨sl, hp, bs⟩ ⟨rfl, h⟩
  simp only [sls_cons, sls_one, sls_nil] at h
  refine vc_cut (fun st => ∃ u v m, SortedU l v m ∧ u = v.take m ∧ At [(11, .own 3 7 0 (toldC F s l u).length (toldC F s l u).length)] [ST s ms, P, .mem true [] (F.map Iv.cells), .mem false [] ((toldC F s l u).map Cs.cells), .mem false [] (ri v)] st) ?_ ?_
  · refine vc_cut (fun st => ∃ v m, SortedU l v m ∧ At [(1, .ptr 0 1 0 0), (6, .ptr 1 1 0 0), (7, .view 3 (F.map Iv.cells)), (11, .own 3 7 0 0 0), (50, .own 4 1 0 m l.length), (51, V.i m), (52, V.i 0)] [ST s ms, P, .mem true [] (F.map Iv.cells), .mem false [] [], .mem false [] (ri v)] st) ?_ ?_
    · simp -dsimp [h]
      refine ⟨_, Weak.ownnil 11 7 (by simp -dsimp [h]), ?_⟩
      simp -dsimp [h, hP]
      refine gcallm (cloneI l (by omega)) [] (by simp -dsimp [h, addAll, vInts]) ⟨by simp, by simp, by simp, by simp⟩ (by simp -dsimp [h, vInts]) (by simp [sub]) (by simp) ?_
      simp -dsimp [h, merge, place, back, ri_ren]
      refine gcallm_gen (sorted_spec l (by omega)) [4] (by simp -dsimp [h, addAll]) ⟨by simp, by simp, by simp, by simp⟩ (by simp -dsimp [h, idx, List.idxOf_cons]) (by simp [sub, ri_ren]) (by simp) ?_
      rintro r H ⟨v, m, rfl, hv, rfl⟩
      have hvl : (ri v).length = l.length := by rw [ri_len, hv.n]
      simp -dsimp [h, At, merge, place, ri_ren, back, hvl]
      exact ⟨v, m, hv, ⟨hP.symm, rfl⟩, rfl, rfl⟩
    clear h
    rintro ⟨sl, hp, bs⟩ ⟨v, m, hv, hh, h⟩
    rw [hP] at hh
    refine vc_block_of (cuts_b1 hs hll hFm (by omega) (u := v) (m := m) (n := l.length) (by have := hv.m; exact this) hv.n hll (fun x hx => (hv.mem x).1 hx) rfl ⟨hh, h⟩ ?_)
    intro st' h'
    rw [← hP] at h'
    exact ⟨v.take m, v, m, hv, rfl, h'⟩
  clear h
  rintro ⟨sl, hp, bs⟩ ⟨u, v, m, hv, hu, rfl, h⟩; simp only [sls_one] at h
  have ht2 : List.take (toldC F s l u).length ((toldC F s l u).map Cs.cells) = (toldC F s l u).map Cs.cells := List.take_of_length_le (by simp)
  simp -dsimp [h, hall_Cuts.rs, ht2]
  exact ⟨L, hL, ho, u, by rw [hu]; exact hv.up, fun x => by rw [hu]; exact hv.mem x, by rw [hF]⟩
end Go.Abs.G

namespace Go.Abs.G
open Go.Proofs
set_option linter.unusedVariables false
set_option linter.unusedSimpArgs false

theorem sameInts13_spec (a b : List Int) (ha : a.length ≤ maxLen) : Pf Tryz.prog hallmarklaw13_sameInts.id [vInts a, vInts b] (.bool (decide (a = b))) := by
  have hM : (maxLen : Int) ≤ 9223372036854775807 := by decide
  refine DC.of hallmarklaw13_sameInts.ok (by simp) ?_
  unfold hallmarklaw13_sameInts.ir
  refine vc_cut (At [(0, vInts a), (1, vInts b)] []) (by simp -dsimp [At]) ?_
  try clear h
  rintro ⟨sl, hp, bs⟩ ⟨rfl, h⟩
  simp only [sls_cons, sls_one, sls_nil] at h
  refine vc_cut (fun st => a.length = b.length ∧ At [(0, vInts a), (1, vInts b)] [] st) ?_ ?_
  · by_cases hl : a.length = b.length
    · simp -dsimp [h, At, hl, vInts]
    · have hl' : ¬ (a.length : Int) = b.length := by omega
      have hne : a ≠ b := fun e => hl (by rw [e])
      simp -dsimp [h, hl, hl', vInts, hallmarklaw13_sameInts.rs, hne]
  try clear h
  rintro ⟨sl, hp, bs⟩ ⟨hl, rfl, h⟩
  simp only [sls_cons, sls_one, sls_nil] at h
  refine vc_cut (fun st => a = b ∧ st.hp = []) ?_ ?_
  · refine vc_cut (At [(0, vInts a), (1, vInts b), (5, V.i 0)] []) (by simp -dsimp [h, At]) ?_
    try clear h
    rintro ⟨sl, hp, bs⟩ ⟨rfl, h⟩
    simp only [sls_cons, sls_one, sls_nil] at h
    refine vc_block_of (vc_upto 0 (by simp) a.length (fun i st => (∀ j, j < i → a[j]? = b[j]?) ∧ At [(0, vInts a), (1, vInts b), (5, V.i i)] [] st) ⟨by simp, rfl, by simpa using h⟩ ?_)
    clear h
    rintro i ⟨sl, hp, bs⟩ hi ⟨hx, rfl, h⟩
    simp only [sls_cons, sls_one] at h
    unfold hallmarklaw13_sameInts.b0
    by_cases hil : i < a.length
    · have hw : IntKind.i64.wrap ((i : Int) + 1) = ((i + 1 : Nat) : Int) := by rw [wrap64] <;> omega
      have hil' : i < b.length := by omega
      refine vc_cut (At [(0, vInts a), (1, vInts b), (5, V.i i)] []) (by simp -dsimp [h, At, hil, vInts]) ?_
      try clear h
      rintro ⟨sl, hp, bs⟩ ⟨rfl, h⟩
      simp only [sls_cons, sls_one, sls_nil] at h
      refine vc_cut (fun st => a[i]? = b[i]? ∧ At [(0, vInts a), (1, vInts b), (5, V.i i)] [] st) ?_ ?_
      · refine vc_block_of ?_
        by_cases he : a[i] = b[i]
        · simp -dsimp [h, At, vInts, hil, hil', he]
        · have hne : a ≠ b := fun e => he (by subst e; rfl)
          simp -dsimp [h, vInts, hil, hil', he, hallmarklaw13_sameInts.rs, hne]
      try clear h
      rintro ⟨sl, hp, bs⟩ ⟨he, rfl, h⟩
      simp only [sls_cons, sls_one, sls_nil] at h
      simp -dsimp [h, At, hw, hil, vInts]
      intro j hj
      by_cases hji : j = i
      · rw [hji]; exact he
      · exact hx j (by omega)
    · have hil' : i = a.length := by omega
      subst hil'
      simp -dsimp [h, vInts]
      apply List.ext_getElem?
      intro j
      by_cases hj : j < a.length
      · exact hx j hj
      · rw [List.getElem?_eq_none (by omega), List.getElem?_eq_none (by omega)]
  · rintro ⟨sl, hp, bs⟩ ⟨rfl, rfl⟩
    simp -dsimp [hallmarklaw13_sameInts.rs]


theorem sameHall13_spec (a b c d : Int) (xs ys : List Int) (hx : xs.length ≤ maxLen) : Pf Tryz.prog hallmarklaw13_sameHall.id [.agg (hallCells a b xs), .agg (hallCells c d ys)] (.bool (decide (a = c) && (decide (b = d) && decide (xs = ys)))) := by
  refine DC.of hallmarklaw13_sameHall.ok (by simp) ?_
  unfold hallmarklaw13_sameHall.ir
  obtain ⟨A, hA⟩ : ∃ A, A = O.mem false [] [hallCells a b xs] := ⟨_, rfl⟩
  obtain ⟨B, hB⟩ : ∃ B, B = O.mem false [] [hallCells c d ys] := ⟨_, rfl⟩
  refine vc_cut (At [(2, .ptr 0 1 0 0), (3, .ptr 1 1 0 0)] [A, B]) (by simp -dsimp [At, hA, hB, hallCells, vInts]) ?_
  try clear h
  rintro ⟨sl, hp, bs⟩ ⟨rfl, h⟩
  simp only [sls_cons, sls_one, sls_nil] at h
  have hs := sameInts13_spec xs ys hx
  by_cases h1 : a = c
  · by_cases h2 : b = d
    · simp -dsimp [h, hA, hB, hallCells, vInts, h1, h2]
      refine gcall (hs) (by simp -dsimp [h, hA, hB, hallCells, vInts, h1, h2, hallmarklaw13_sameHall.rs]) (by simp -dsimp [h, hA, hB, hallCells, vInts, h1, h2, hallmarklaw13_sameHall.rs]) ?_
      simp -dsimp [h, hA, hB, hallCells, vInts, h1, h2, hallmarklaw13_sameHall.rs]
    · simp -dsimp [h, hA, hB, hallCells, vInts, h1, h2, hallmarklaw13_sameHall.rs]
  · simp -dsimp [h, hA, hB, hallCells, vInts, h1, hallmarklaw13_sameHall.rs]

def clash (vs : List Int) (x y : Int) : Prop := 0 ≤ x ∧ x < vs.length ∧ 0 ≤ y ∧ y < vs.length ∧ vs.getD x.toNat 0 = vs.getD y.toNat 0
def Diff (xs vs : List Int) : Prop := ∀ (i k : Nat) (x y : Int), k < i → xs[i]? = some x → xs[k]? = some y → ¬ clash vs x y
theorem different_spec (xs vs : List Int) (hx : xs.length ≤ 1000000) (hv : vs.length ≤ 1000000) : DP Tryz.prog hallmarklaw13_different.id [vInts xs, vInts vs] (fun r => ∃ b, r = .bool b ∧ (b = true ↔ Diff xs vs)) := by
  refine DC.of hallmarklaw13_different.ok (by simp) ?_
  unfold hallmarklaw13_different.ir
  refine vc_cut (At [(0, vInts xs), (1, vInts vs)] []) (by simp -dsimp [At]) ?_
  try clear h
  rintro ⟨sl, hp, bs⟩ ⟨rfl, h⟩
  simp only [sls_cons, sls_one, sls_nil] at h
  refine vc_cut (fun st => Diff xs vs ∧ st.hp = []) ?_ ?_
  · refine vc_cut (At [(0, vInts xs), (1, vInts vs), (5, V.i 0)] []) (by simp -dsimp [h, At]) ?_
    try clear h
    rintro ⟨sl, hp, bs⟩ ⟨rfl, h⟩
    simp only [sls_cons, sls_one, sls_nil] at h
    refine vc_block_of (vc_upto 0 (by simp) xs.length (fun i st => (∀ (i' k : Nat) (x y : Int), k < i' → i' < i → xs[i']? = some x → xs[k]? = some y → ¬ clash vs x y) ∧ At [(0, vInts xs), (1, vInts vs), (5, V.i i)] [] st) ⟨(fun _ _ _ _ _ h => by omega), rfl, by simpa using h⟩ ?_)
    clear h
    rintro i ⟨sl, hp, bs⟩ hi ⟨hd, rfl, h⟩
    simp only [sls_cons, sls_one] at h
    unfold hallmarklaw13_different.b0
    by_cases hil : i < xs.length
    · have hil' : (i : Int) < xs.length := by omega
      have hw : IntKind.i64.wrap ((i : Int) + 1) = ((i + 1 : Nat) : Int) := by rw [wrap64] <;> omega
      refine vc_cut (At [(0, vInts xs), (1, vInts vs), (5, V.i i)] []) (by simp -dsimp [h, At, hil, hil', vInts]) ?_
      try clear h
      rintro ⟨sl, hp, bs⟩ ⟨rfl, h⟩
      simp only [sls_cons, sls_one, sls_nil] at h
      obtain ⟨x, hxx⟩ : ∃ x, x = xs[i] := ⟨_, rfl⟩
      refine vc_cut (fun st => (∀ (k : Nat) (y : Int), k < i → xs[k]? = some y → ¬ clash vs x y) ∧ At [(0, vInts xs), (1, vInts vs), (5, V.i i)] [] st) ?_ ?_
      · refine vc_block_of ?_
        refine vc_cut (At [(0, vInts xs), (1, vInts vs), (5, V.i i), (6, V.i 0)] []) (by simp -dsimp [h, At]) ?_
        try clear h
        rintro ⟨sl, hp, bs⟩ ⟨rfl, h⟩
        simp only [sls_cons, sls_one, sls_nil] at h
        refine vc_block_of (vc_upto 0 (by simp) i (fun k st => (∀ (k' : Nat) (y : Int), k' < k → xs[k']? = some y → ¬ clash vs x y) ∧ At [(0, vInts xs), (1, vInts vs), (5, V.i i), (6, V.i k)] [] st) ⟨(fun _ _ h => by omega), rfl, by simpa using h⟩ ?_)
        clear h
        rintro k ⟨sl, hp, bs⟩ hk ⟨hd2, rfl, h⟩
        simp only [sls_cons, sls_one] at h
        unfold hallmarklaw13_different.b1
        by_cases hkl : k < i
        · have hkl' : (k : Int) < i := by omega
          have hkx : k < xs.length := by omega
          have hkx' : (k : Int) < xs.length := by omega
          have hwk : IntKind.i64.wrap ((k : Int) + 1) = ((k + 1 : Nat) : Int) := by rw [wrap64] <;> omega
          obtain ⟨y, hyy⟩ : ∃ y, y = xs[k] := ⟨_, rfl⟩
          have hnext : ¬ clash vs x y → ∀ (k' : Nat) (y : Int), k' < k + 1 → xs[k']? = some y → ¬ clash vs x y := fun hc k' y' hk' hy' => by
            by_cases hke : k' = k
            · subst hke
              rw [List.getElem?_eq_getElem hkx, ← hyy] at hy'
              rw [← Option.some.inj hy']; exact hc
            · exact hd2 k' y' (by omega) hy'
          by_cases c1 : 0 ≤ x
          · by_cases c2 : x < vs.length
            · by_cases c3 : 0 ≤ y
              · by_cases c4 : y < vs.length
                · obtain ⟨p, hp⟩ := Int.eq_ofNat_of_zero_le c1
                  obtain ⟨q, hq⟩ := Int.eq_ofNat_of_zero_le c3
                  have p1 : p < vs.length := by omega
                  have q1 : q < vs.length := by omega
                  have p2 : (p : Int) < vs.length := by omega
                  have q2 : (q : Int) < vs.length := by omega
                  have ep : vs.getD p 0 = vs[p] := by simp [List.getD, p1]
                  have eq' : vs.getD q 0 = vs[q] := by simp [List.getD, q1]
                  rw [hp] at hxx
                  rw [hq] at hyy
                  by_cases c5 : vs[p] = vs[q]
                  · have hcl : clash vs x y := ⟨c1, c2, c3, c4, by rw [hp, hq]; simp only [Int.toNat_natCast]; rw [ep, eq', c5]⟩
                    simp -dsimp [h, hil, hil', hkl, hkl', hkx, hkx', vInts, ← hxx, ← hyy, p1, q1, p2, q2, c5, hallmarklaw13_different.rs]
                    intro hD
                    refine hD i k x y hkl ?_ ?_ hcl
                    · rw [List.getElem?_eq_getElem hil, ← hxx, hp]
                    · rw [List.getElem?_eq_getElem hkx, ← hyy, hq]
                  · have hcl : ¬ clash vs x y := fun ⟨_, _, _, _, e⟩ => c5 (by rw [hp, hq] at e; simp only [Int.toNat_natCast] at e; rw [ep, eq'] at e; exact e)
                    simp -dsimp [h, hil, hil', hkl, hkl', hkx, hkx', vInts, ← hxx, ← hyy, p1, q1, p2, q2, c5, At, hwk]
                    exact hnext hcl
                · have hcl : ¬ clash vs x y := fun ⟨_, _, _, e, _⟩ => c4 e
                  simp -dsimp [h, hil, hil', hkl, hkl', hkx, hkx', vInts, ← hxx, ← hyy, c1, c2, c3, c4, At, hwk]
                  exact hnext hcl
              · have hcl : ¬ clash vs x y := fun ⟨_, _, e, _, _⟩ => c3 e
                simp -dsimp [h, hil, hil', hkl, hkl', hkx, hkx', vInts, ← hxx, ← hyy, c1, c2, c3, At, hwk]
                exact hnext hcl
            · have hcl : ¬ clash vs x y := fun ⟨_, e, _, _, _⟩ => c2 e
              simp -dsimp [h, hil, hil', hkl, hkl', hkx, hkx', vInts, ← hxx, ← hyy, c1, c2, At, hwk]
              exact hnext hcl
          · have hcl : ¬ clash vs x y := fun ⟨e, _, _, _, _⟩ => c1 e
            simp -dsimp [h, hil, hil', hkl, hkl', hkx, hkx', vInts, ← hxx, ← hyy, c1, At, hwk]
            exact hnext hcl
        · have hkl' : ¬ (k : Int) < i := by omega
          have e : k = i := by omega
          subst e
          simp -dsimp [h, At]
          exact hd2
      try clear h
      rintro ⟨sl, hp, bs⟩ ⟨hd2, rfl, h⟩
      simp only [sls_cons, sls_one, sls_nil] at h
      simp -dsimp [h, At, hw, hil, vInts]
      intro i' k x' y' hk hi' hx' hy'
      by_cases hie : i' = i
      · subst hie
        rw [List.getElem?_eq_getElem hil, ← hxx] at hx'
        rw [← Option.some.inj hx']; exact hd2 k y' hk hy'
      · exact hd i' k x' y' hk (by omega) hx' hy'
    · have hil' : ¬ (i : Int) < xs.length := by omega
      simp -dsimp [h, hil', vInts]
      intro i' k x y hk hx' hy'
      exact hd i' k x y hk (by have := (List.getElem?_eq_some_iff.1 hx').1; omega) hx' hy'
  · rintro ⟨sl, hp, bs⟩ ⟨he, rfl⟩
    simp -dsimp [hallmarklaw13_different.rs, he]
end Go.Abs.G

namespace Go.Abs.G
open Go.Proofs
set_option linter.unusedVariables false
set_option linter.unusedSimpArgs false

def m13 : Model := ⟨[⟨⟨#[120]⟩, 1, 2⟩, ⟨⟨#[121]⟩, 1, 2⟩, ⟨⟨#[122]⟩, 1, 4⟩, ⟨⟨#[119]⟩, 4, 4⟩], [], false, []⟩
theorem m13_ok : okModel m13 := by
  refine ⟨⟨by decide, fun v hv => ?_⟩, ⟨by decide, fun c hc => by cases hc⟩, by decide, fun t ht => by cases ht⟩
  simp only [m13, List.mem_cons, List.not_mem_nil, or_false] at hv
  rcases hv with rfl | rfl | rfl | rfl <;> exact ⟨by decide, ⟨by decide, by decide⟩, ⟨by decide, by decide⟩⟩

theorem up_eq : ∀ {a b : List Int}, a.Pairwise (· < ·) → b.Pairwise (· < ·) → (∀ x, x ∈ a ↔ x ∈ b) → a = b
  | [], [], _, _, _ => rfl
  | [], y :: b, _, _, h => by have := (h y).2 (by simp); cases this
  | x :: a, [], _, _, h => by have := (h x).1 (by simp); cases this
  | x :: a, y :: b, ha, hb, h => by
    rw [List.pairwise_cons] at ha hb
    have hxy : x = y := by
      have h1 := (h x).1 (by simp); have h2 := (h y).2 (by simp)
      rcases List.mem_cons.1 h1 with e | h1
      · exact e
      · rcases List.mem_cons.1 h2 with e | h2
        · exact e.symm
        · have := hb.1 x h1; have := ha.1 y h2; omega
    subst hxy
    congr 1
    refine up_eq ha.2 hb.2 fun z => ⟨fun hz => ?_, fun hz => ?_⟩
    · rcases List.mem_cons.1 ((h z).1 (by simp [hz])) with e | h1
      · have := ha.1 z hz; omega
      · exact h1
    · rcases List.mem_cons.1 ((h z).2 (by simp [hz])) with e | h1
      · have := hb.1 z hz; omega
      · exact h1

theorem fulls_mem {L : List Iv} {i : Iv} : i ∈ fulls L ↔ i ∈ L ∧ (i.w.length : Int) = i.b - i.a + 1 := by
  unfold fulls; rw [List.mem_filter]; simp [Iv.fullB]
theorem takes_iff {s : List Dom} {l : List Int} {L : List Iv} (hL : IvOk s l L) {x v : Int} (hx : x ∈ l) {i : Iv} (hi : i ∈ L) : takes l x v i = true ↔ i.a ≤ v ∧ v ≤ i.b ∧ ¬ inIv s i x := by
  unfold takes
  rw [(hL.mem i hi).2.1]
  simp only [Bool.and_eq_true, decide_eq_true_eq, Bool.not_eq_true', decide_eq_false_iff_not, own_in hx, inIv, and_assoc]
theorem find_one {α : Type} {p : α → Bool} {l : List α} {a : α} (h1 : ∃ i ∈ l, p i = true) (h2 : ∀ i ∈ l, p i = true → i = a) : l.find? p = some a := by
  cases h : l.find? p with
  | none =>
    obtain ⟨i, hi, hp⟩ := h1
    rw [List.find?_eq_none] at h; exact absurd hp (h i hi)
  | some b => rw [h2 b (List.mem_of_find?_eq_some h) (List.find?_some h)]

/-- What is known of the four domains. -/
structure S13 (s : List Dom) : Prop where
  n : s.length = 4
  v0 : valsB s 0 = [1, 2]
  v1 : valsB s 1 = [1, 2]
  v2 : valsB s 2 = [1, 2, 3, 4]
  v3 : valsB s 3 = [4]
theorem s13 : S13 (domsOf m13) := ⟨by decide +kernel, by decide +kernel, by decide +kernel, by decide +kernel, by decide +kernel⟩
section
variable {s : List Dom} (h : S13 s)
include h
theorem S13.lo0 : loB s 0 = 1 := by simp [loB, h.v0]
theorem S13.lo1 : loB s 1 = 1 := by simp [loB, h.v1]
theorem S13.lo2 : loB s 2 = 1 := by simp [loB, h.v2]
theorem S13.lo3 : loB s 3 = 4 := by simp [loB, h.v3]
theorem S13.hi0 : hiB s 0 = 2 := by simp [hiB, h.v0]
theorem S13.hi1 : hiB s 1 = 2 := by simp [hiB, h.v1]
theorem S13.hi2 : hiB s 2 = 4 := by simp [hiB, h.v2]
theorem S13.hi3 : hiB s 3 = 4 := by simp [hiB, h.v3]
theorem S13.p4 : placesB s [0, 1, 2, 3] = [0, 1, 2, 3] := by simp [placesB, isB, h.n]
theorem S13.p3 : placesB s [0, 1, 0] = [0, 1, 0] := by simp [placesB, isB, h.n]
theorem S13.ins4 (a b : Int) : insB s [0, 1, 2, 3] a b = (if a ≤ 1 ∧ 2 ≤ b then [0, 1] else []) ++ ((if a ≤ 1 ∧ 4 ≤ b then [2] else []) ++ (if a ≤ 4 ∧ 4 ≤ b then [3] else [])) := by
  unfold insB
  rw [show List.range [(0 : Int), 1, 2, 3].length = [0, 1, 2, 3] from rfl]
  simp only [List.filter_cons, List.filter_nil, List.getD_cons_zero, List.getD_cons_succ, h.lo0, h.lo1, h.lo2, h.lo3, h.hi0, h.hi1, h.hi2, h.hi3]
  by_cases h1 : a ≤ 1 <;> by_cases h2 : 2 ≤ b <;> by_cases h4 : a ≤ 4 <;> by_cases h3 : 4 ≤ b <;> first | omega | simp [h1, h2, h3, h4]
theorem S13.ins3 (a b : Int) : insB s [0, 1, 0] a b = if a ≤ 1 ∧ 2 ≤ b then [0, 1, 2] else [] := by
  unfold insB
  rw [show List.range [(0 : Int), 1, 0].length = [0, 1, 2] from rfl]
  simp only [List.filter_cons, List.filter_nil, List.getD_cons_zero, List.getD_cons_succ, h.lo0, h.lo1, h.hi0, h.hi1]
  by_cases h1 : a ≤ 1 <;> by_cases h2 : 2 ≤ b <;> simp [h1, h2]
theorem S13.ok4 {L : List Iv} (hL : IvOk s [0, 1, 2, 3] L) : ¬ overB L := by
  rintro ⟨i, hi, ho⟩
  obtain ⟨h1, h2, _⟩ := hL.mem i hi
  unfold Iv.over at ho
  rw [h2, h.ins4] at ho
  by_cases c1 : i.a ≤ 1 <;> by_cases c2 : 2 ≤ i.b <;> by_cases c3 : 4 ≤ i.b <;> by_cases c4 : i.a ≤ 4 <;> simp [c1, c2, c3, c4] at ho <;> omega
theorem S13.no3 {L : List Iv} (hL : IvOk s [0, 1, 0] L) : overB L := by
  obtain ⟨i, hi, ha, hb⟩ := hL.all 0 (by simp) 0 (by simp) (by rw [h.lo0, h.hi0]; omega)
  refine ⟨i, hi, ?_⟩
  rw [h.lo0] at ha; rw [h.hi0] at hb
  unfold Iv.over
  rw [(hL.mem i hi).2.1, h.ins3, ha, hb]; decide
theorem S13.f3 {L : List Iv} (hL : IvOk s [0, 1, 0] L) {i : Iv} (hi : i ∈ L) (ho : i.over) : hallV i [0, 1, 0] = hallCells 1 2 [0, 1, 0] := by
  obtain ⟨h1, h2, _⟩ := hL.mem i hi
  unfold Iv.over at ho
  rw [h2, h.ins3] at ho
  by_cases c : i.a ≤ 1 ∧ 2 ≤ i.b
  · simp [c] at ho
    have ea : i.a = 1 := by omega
    have eb : i.b = 2 := by omega
    unfold hallV hallX
    rw [h2, h.ins3, ea, eb]; rfl
  · simp [c] at ho; omega
theorem S13.full4 {L : List Iv} (hL : IvOk s [0, 1, 2, 3] L) {i : Iv} (hi : i ∈ fulls L) : i = ⟨1, 2, [0, 1]⟩ ∨ i = ⟨1, 4, [0, 1, 2, 3]⟩ ∨ i = ⟨4, 4, [3]⟩ := by
  obtain ⟨hi, hf⟩ := fulls_mem.1 hi
  obtain ⟨h1, h2, _⟩ := hL.mem i hi
  rw [h2, h.ins4] at hf
  obtain ⟨a, b, w⟩ := i
  simp only at h1 h2 hf ⊢
  rw [h.ins4] at h2
  by_cases c1 : a ≤ 1 <;> by_cases c2 : 2 ≤ b <;> by_cases c3 : 4 ≤ b <;> by_cases c4 : a ≤ 4 <;> simp [c1, c2, c3, c4] at hf h2 <;> first | omega | skip
  · obtain rfl : a = 1 := by omega
    obtain rfl : b = 4 := by omega
    exact .inr (.inl (by rw [h2]))
  · obtain rfl : a = 1 := by omega
    obtain rfl : b = 2 := by omega
    exact .inl (by rw [h2])
  · obtain rfl : a = 4 := by omega
    obtain rfl : b = 4 := by omega
    exact .inr (.inr (by rw [h2]))
theorem S13.told {L : List Iv} (hL : IvOk s [0, 1, 2, 3] L) {u : List Int} (hu : u.Pairwise (· < ·)) (hm : ∀ x, x ∈ u ↔ x ∈ [(0 : Int), 1, 2, 3]) :
    toldC (fulls L) s [0, 1, 2, 3] u = [⟨2, 1, 1, 2, [0, 1]⟩, ⟨2, 2, 1, 2, [0, 1]⟩, ⟨2, 4, 4, 4, [3]⟩] := by
  obtain rfl : u = [0, 1, 2, 3] := up_eq hu (by decide) hm
  obtain ⟨F, hF⟩ : ∃ F, F = fulls L := ⟨_, rfl⟩
  have hfm : ∀ i ∈ F, i ∈ L := fun i hi => by rw [hF] at hi; exact (fulls_mem.1 hi).1
  have hff : ∀ i ∈ F, i = ⟨1, 2, [0, 1]⟩ ∨ i = ⟨1, 4, [0, 1, 2, 3]⟩ ∨ i = ⟨4, 4, [3]⟩ := fun i hi => by rw [hF] at hi; exact h.full4 hL hi
  have e1 : (⟨1, 2, [0, 1]⟩ : Iv) ∈ F := by
    obtain ⟨i, hi, ha, hb⟩ := hL.all 0 (by simp) 0 (by simp) (by rw [h.lo0, h.hi0]; omega)
    rw [h.lo0] at ha; rw [h.hi0] at hb
    have hw := (hL.mem i hi).2.1
    rw [ha, hb, h.ins4] at hw
    obtain ⟨a, b, w⟩ := i
    simp only at ha hb hw
    subst ha hb hw
    rw [hF]; exact fulls_mem.2 ⟨hi, by decide⟩
  have e2 : (⟨4, 4, [3]⟩ : Iv) ∈ F := by
    obtain ⟨i, hi, ha, hb⟩ := hL.all 3 (by simp) 3 (by simp) (by rw [h.lo3, h.hi3]; omega)
    rw [h.lo3] at ha; rw [h.hi3] at hb
    have hw := (hL.mem i hi).2.1
    rw [ha, hb, h.ins4] at hw
    obtain ⟨a, b, w⟩ := i
    simp only at ha hb hw
    subst ha hb hw
    rw [hF]; exact fulls_mem.2 ⟨hi, by decide⟩
  rw [← hF]
  have tk : ∀ x ∈ [(0 : Int), 1, 2, 3], ∀ (v : Int), ∀ i ∈ F, takes [0, 1, 2, 3] x v i = true ↔ i.a ≤ v ∧ v ≤ i.b ∧ ¬ inIv s i x := fun x hx v i hi => takes_iff hL hx (hfm i hi)
  have none : ∀ x ∈ [(0 : Int), 1, 2, 3], ∀ (v : Int), (∀ i ∈ F, i.a ≤ v → v ≤ i.b → inIv s i x) → mkC F [0, 1, 2, 3] x v = none := fun x hx v hv => by
    have : F.find? (takes [0, 1, 2, 3] x v) = none := by
      rw [List.find?_eq_none]
      intro i hi ht
      obtain ⟨t1, t2, t3⟩ := (tk x hx v i hi).1 ht
      exact t3 (hv i hi t1 t2)
    unfold mkC; rw [this]; rfl
  have one : ∀ x ∈ [(0 : Int), 1, 2, 3], ∀ (v : Int) (j : Iv), j ∈ F → j.a ≤ v → v ≤ j.b → ¬ inIv s j x → (∀ i ∈ F, i.a ≤ v → v ≤ i.b → ¬ inIv s i x → i = j) → mkC F [0, 1, 2, 3] x v = some ⟨x, v, j.a, j.b, hallX j [0, 1, 2, 3]⟩ := fun x hx v j hj j1 j2 j3 hu => by
    have : F.find? (takes [0, 1, 2, 3] x v) = some j := find_one ⟨j, hj, (tk x hx v j hj).2 ⟨j1, j2, j3⟩⟩ fun i hi ht => by
      obtain ⟨t1, t2, t3⟩ := (tk x hx v i hi).1 ht
      exact hu i hi t1 t2 t3
    unfold mkC; rw [this]; rfl
  have n0 : ∀ v : Int, v ≤ 2 → mkC F [0, 1, 2, 3] 0 v = .none := fun v hv => none 0 (by simp) v fun i hi a1 a2 => by
    rcases hff i hi with rfl | rfl | rfl <;> unfold inIv <;> rw [h.lo0, h.hi0] <;> simp only at a1 a2 ⊢ <;> omega
  have n1 : ∀ v : Int, v ≤ 2 → mkC F [0, 1, 2, 3] 1 v = .none := fun v hv => none 1 (by simp) v fun i hi a1 a2 => by
    rcases hff i hi with rfl | rfl | rfl <;> unfold inIv <;> rw [h.lo1, h.hi1] <;> simp only at a1 a2 ⊢ <;> omega
  have n3 : mkC F [0, 1, 2, 3] 3 4 = .none := none 3 (by simp) 4 fun i hi a1 a2 => by
    rcases hff i hi with rfl | rfl | rfl <;> unfold inIv <;> rw [h.lo3, h.hi3] <;> simp only at a1 a2 ⊢ <;> omega
  have n23 : mkC F [0, 1, 2, 3] 2 3 = .none := none 2 (by simp) 3 fun i hi a1 a2 => by
    rcases hff i hi with rfl | rfl | rfl <;> unfold inIv <;> rw [h.lo2, h.hi2] <;> simp only at a1 a2 ⊢ <;> omega
  have n2 : ∀ v : Int, 1 ≤ v → v ≤ 2 → mkC F [0, 1, 2, 3] 2 v = some ⟨2, v, 1, 2, [0, 1]⟩ := fun v hv hv2 => one 2 (by simp) v ⟨1, 2, [0, 1]⟩ e1 hv hv2 (by unfold inIv; rw [h.lo2, h.hi2]; simp) fun i hi a1 a2 a3 => by
    unfold inIv at a3
    rw [h.lo2, h.hi2] at a3
    rcases hff i hi with rfl | rfl | rfl <;> simp only at a1 a2 a3 <;> first | rfl | omega
  have n24 : mkC F [0, 1, 2, 3] 2 4 = some ⟨2, 4, 4, 4, [3]⟩ := one 2 (by simp) 4 ⟨4, 4, [3]⟩ e2 (by simp) (by simp) (by unfold inIv; rw [h.lo2, h.hi2]; simp) fun i hi a1 a2 a3 => by
    unfold inIv at a3
    rw [h.lo2, h.hi2] at a3
    rcases hff i hi with rfl | rfl | rfl <;> simp only at a1 a2 a3 <;> first | rfl | omega
  unfold toldC
  simp only [List.flatMap_cons, List.flatMap_nil, h.v0, h.v1, h.v2, h.v3, List.filterMap_cons, List.filterMap_nil, n0 1 (by omega), n0 2 (by omega), n1 1 (by omega), n1 2 (by omega), n2 1 (by omega) (by omega), n2 2 (by omega) (by omega), n23, n24, n3, List.nil_append, List.append_nil]
end
end Go.Abs.G

namespace Go.Abs.G
open Go.Proofs
set_option linter.unusedVariables false
set_option linter.unusedSimpArgs false

section
variable {s : List Dom} (hT : Two s []) (h : S13 s)
include hT h
theorem known13_1 : DC Tryz.prog hall_Cuts.id [vInts [0, 1, 2, 3], .ptr 0 1 0 0] [ST s []] (fun r H => r = .tup [.view 7 (List.map Cs.cells [⟨2, 1, 1, 2, [0, 1]⟩, ⟨2, 2, 1, 2, [0, 1]⟩, ⟨2, 4, 4, 4, [3]⟩]), .bool true] ∧ H = [ST s []]) := by
  refine DC.mono (cuts13_spec hT [0, 1, 2, 3] (by decide)) fun r H ⟨⟨L, hL, hr⟩, hH⟩ => ⟨?_, hH⟩
  rw [h.p4] at hL hr
  rcases hr with ⟨ho, _⟩ | ⟨_, u, hu, hm, rfl⟩
  · exact (h.ok4 hL ho).elim
  · rw [h.told hL hu hm]
theorem known13_2 : DC Tryz.prog hall_Cuts.id [vInts [0, 1, 0], .ptr 0 1 0 0] [ST s []] (fun r H => r = .tup [nilS, .bool false] ∧ H = [ST s []]) := by
  refine DC.mono (cuts13_spec hT [0, 1, 0] (by decide)) fun r H ⟨⟨L, hL, hr⟩, hH⟩ => ⟨?_, hH⟩
  rw [h.p3] at hL hr
  rcases hr with ⟨ho, rfl⟩ | ⟨ho, _⟩
  · rfl
  · exact (ho (h.no3 hL)).elim
theorem known13_3 : DC Tryz.prog hall_Fails.id [vInts [0, 1, 0], .ptr 0 1 0 0] [ST s []] (fun r H => r = .tup [.agg (hallCells 1 2 [0, 1, 0]), .bool true] ∧ H = [ST s []]) := by
  refine DC.mono (fails_spec hT [0, 1, 0] (by decide)) fun r H ⟨⟨L, hL, hr⟩, hH⟩ => ⟨?_, hH⟩
  rw [h.p3] at hL hr
  rcases hr with ⟨i, hi, ho, rfl⟩ | ⟨ho, _⟩
  · rw [h.f3 hL hi ho]
  · exact (ho (h.no3 hL)).elim
end

theorem known13_spec : Pf Tryz.prog hallmarklaw13_known.id [] (.bool true) := by
  refine DC.of hallmarklaw13_known.ok (by simp) ?_
  unfold hallmarklaw13_known.ir
  have hnew := newT m13 m13_ok
  have hT := Two.new m13
  have hS := s13
  have p1 := known13_1 hT hS
  have p2 := known13_2 hT hS
  have p3 := known13_3 hT hS
  have q1 := sameHall13_spec 1 2 1 2 [0, 1, 0] [0, 1, 0] (by decide)
  have q2 := sameHall13_spec 1 2 1 2 [0, 1] [0, 1] (by decide)
  have q3 := sameHall13_spec 4 4 4 4 [3] [3] (by decide)
  generalize domsOf m13 = s at hnew hT p1 p2 p3
  clear hS hT
  simp only [vInts, hallCells, List.map_cons, List.map_nil, Cs.cells] at p1 p2 p3 q1 q2 q3
  refine vc_cut (At [] []) (by simp -dsimp [At]) ?_
  try clear h
  rintro ⟨sl, hp, bs⟩ ⟨rfl, h⟩
  simp only [sls_cons, sls_one, sls_nil] at h
  refine vc_cut (fun st => ∃ A, At [(1, .ptr 1 1 0 0)] [A, ST s []] st) ?_ ?_
  · simp -dsimp [h]
    refine gcallo (zs := [.agg [vVars m13.vars, nilS, .bool false, nilS]]) (H0 := [ST s []]) (r0 := .ptr 0 1 0 0) (DC.sub (.cons (.agg (.cons (.refl _) (.cons (.nil 10) (.cons (.refl _) (.cons (.nil 2) .nil))))) .nil) hnew) (by simp -dsimp [vVars, m13, Var.cells]) (by simp -dsimp [vVars]) (by simp) ?_
    simp -dsimp [At]
  rintro ⟨sl, hp, bs⟩ ⟨A, rfl, h⟩; simp only [sls_one] at h
  refine vc_cut (At [(1, .ptr 1 1 0 0)] [A, ST s []]) (by simp -dsimp [h, At]) ?_
  try clear h
  rintro ⟨sl, hp, bs⟩ ⟨rfl, h⟩
  simp only [sls_cons, sls_one, sls_nil] at h
  refine vc_cut (At [(1, .ptr 1 1 0 0), (2, .view 7 (List.map Cs.cells [⟨2, 1, 1, 2, [0, 1]⟩, ⟨2, 2, 1, 2, [0, 1]⟩, ⟨2, 4, 4, 4, [3]⟩])), (3, .bool true)] [A, ST s [], .res]) ?_ ?_
  · simp -dsimp [h]
    refine gcallm1 (p1) 1 (by simp -dsimp [h, addAll]) (by simp -dsimp [h]) (by simp) (by simp) (by simp) (by simp -dsimp [h, idx]) (by simp) ?_
    simp -dsimp [h, At, Cs.cells, vInts]
  try clear h
  rintro ⟨sl, hp, bs⟩ ⟨rfl, h⟩
  simp only [sls_cons, sls_one, sls_nil] at h
  obtain ⟨C, hC⟩ : ∃ C, C = V.view 7 (List.map Cs.cells [⟨2, 1, 1, 2, [0, 1]⟩, ⟨2, 2, 1, 2, [0, 1]⟩, ⟨2, 4, 4, 4, [3]⟩]) := ⟨_, rfl⟩
  rw [← hC] at h
  refine vc_cut (At [(1, .ptr 1 1 0 0), (2, C), (3, .bool true), (5, .bool false)] [A, ST s [], .res, .res]) ?_ ?_
  · simp -dsimp [h]
    refine gcallm1 (p2) 1 (by simp -dsimp [h, addAll]) (by simp -dsimp [h]) (by simp) (by simp) (by simp) (by simp -dsimp [h, idx]) (by simp) ?_
    simp -dsimp [h, At]
  try clear h
  rintro ⟨sl, hp, bs⟩ ⟨rfl, h⟩
  simp only [sls_cons, sls_one, sls_nil] at h
  obtain ⟨R, hR⟩ : ∃ R, R = O.mem false [] [hallCells 1 2 [0, 1, 0]] := ⟨_, rfl⟩
  refine vc_cut (At [(2, C), (3, .bool true), (5, .bool false), (6, .ptr 5 1 0 0), (7, .bool true)] [A, ST s [], .res, .res, .res, R]) ?_ ?_
  · simp -dsimp [h]
    refine gcallm1 (p3) 1 (by simp -dsimp [h, addAll]) (by simp -dsimp [h]) (by simp) (by simp) (by simp) (by simp -dsimp [h, idx]) (by simp) ?_
    simp -dsimp [h, At, hR, hallCells, vInts]
  try clear h
  rintro ⟨sl, hp, bs⟩ ⟨rfl, h⟩
  simp only [sls_cons, sls_one, sls_nil] at h
  refine vc_cut (At [(2, C)] [A, ST s [], .res, .res, .res, R, .res]) ?_ ?_
  · simp -dsimp [h, hC, hR, hallCells, vInts]
    refine gcall (q1) (by simp -dsimp [h, hC, hR, hallCells, vInts, At]) (by simp -dsimp [h, hC, hR, hallCells, vInts, At]) ?_
    simp -dsimp [h, hC, hR, hallCells, vInts, At]
  try clear h
  rintro ⟨sl, hp, bs⟩ ⟨rfl, h⟩
  simp only [sls_cons, sls_one, sls_nil] at h
  simp -dsimp [h, hC, hR, hallCells, vInts, Cs.cells]
  refine gcall (q2) (by simp -dsimp [h, hC, Cs.cells, vInts]) (by simp -dsimp [h, hC, Cs.cells, vInts]) ?_
  simp -dsimp [h, hC, Cs.cells, vInts]
  refine gcall (q3) (by simp -dsimp [h, hC, Cs.cells, vInts, hallmarklaw13_known.rs]) (by simp -dsimp [h, hC, Cs.cells, vInts, hallmarklaw13_known.rs]) ?_
  simp -dsimp [h, hC, Cs.cells, vInts, hallmarklaw13_known.rs]
end Go.Abs.G

namespace Go.Abs.G
open Go.Proofs
set_option linter.unusedVariables false
set_option linter.unusedSimpArgs false

theorem nodup_sub {α : Type} [DecidableEq α] : ∀ (A B : List α), A.Nodup → (∀ p ∈ A, p ∈ B) → A.length ≤ B.length
  | [], B, _, _ => Nat.zero_le _
  | x :: A, B, hA, hB => by
    obtain ⟨hx, hA⟩ := List.nodup_cons.1 hA
    have := nodup_sub A (B.erase x) hA fun p hp => (List.mem_erase_of_ne (fun e => hx (by rw [← e]; exact hp))).2 (hB p (by simp [hp]))
    have hm := hB x (by simp)
    rw [List.length_erase_of_mem hm] at this
    have := List.length_pos_of_mem hm
    simp only [List.length_cons]; omega
theorem up_len {u l : List Int} (hu : u.Pairwise (· < ·)) (hm : ∀ x, x ∈ u ↔ x ∈ l) : u.length ≤ l.length :=
  nodup_sub u l (List.nodup_iff_pairwise_ne.2 (hu.imp fun h => by omega)) fun p hp => (hm p).1 hp

section
variable {s : List Dom} {l : List Int} {L : List Iv} (hL : IvOk s l L) {u : List Int} (hu : ∀ x, x ∈ u ↔ x ∈ l)
include hL hu
theorem told_why {c : Cs} (hc : c ∈ toldC (fulls L) s l u) : c.x ∈ l ∧ c.v ∈ valsB s c.x ∧ ∃ i ∈ L, i.full ∧ i.a ≤ c.v ∧ c.v ≤ i.b ∧ ¬ inIv s i c.x ∧ c.fr = i.a ∧ c.to = i.b ∧ c.xs = hallX i l := by
  unfold toldC at hc
  obtain ⟨x, hx, hc⟩ := List.mem_flatMap.1 hc
  obtain ⟨v, hv, hc⟩ := List.mem_filterMap.1 hc
  unfold mkC at hc
  cases hf : (fulls L).find? (takes l x v) with
  | none => rw [hf] at hc; cases hc
  | some i =>
    rw [hf] at hc
    obtain rfl := Option.some.inj hc
    have hi := List.mem_of_find?_eq_some hf
    have ht := List.find?_some hf
    have hi2 : i ∈ L ∧ (i.w.length : Int) = i.b - i.a + 1 := by
      unfold fulls at hi
      have := List.mem_filter.1 hi
      exact ⟨this.1, by simpa [Iv.fullB] using this.2⟩
    have hxl := (hu x).1 hx
    unfold takes at ht
    rw [(hL.mem i hi2.1).2.1] at ht
    simp only [Bool.and_eq_true, decide_eq_true_eq, Bool.not_eq_true', decide_eq_false_iff_not, own_in hxl] at ht
    exact ⟨hxl, hv, i, hi2.1, hi2.2, ht.1.1, ht.1.2, ht.2, rfl, rfl, rfl⟩
theorem told_goes {c : Cs} (hc : c ∈ toldC (fulls L) s l u) : goesH s l L c.x c.v := by
  obtain ⟨h1, h2, i, hi, h3, h4, h5, h6, _⟩ := told_why hL hu hc
  exact ⟨h1, h2, i, hi, h3, h4, h5, h6⟩
theorem told_all {x v : Int} (h : goesH s l L x v) : goesC' (toldC (fulls L) s l u) x v = true := by
  obtain ⟨hx, hv, i, hi, hf, ha, hb, hn⟩ := h
  have him : i ∈ fulls L := List.mem_filter.2 ⟨hi, by simp [Iv.fullB]; exact hf⟩
  have ht : takes l x v i = true := by
    unfold takes
    rw [(hL.mem i hi).2.1]
    simp only [Bool.and_eq_true, decide_eq_true_eq, Bool.not_eq_true', decide_eq_false_iff_not, own_in hx]
    exact ⟨⟨ha, hb⟩, hn⟩
  cases hfi : (fulls L).find? (takes l x v) with
  | none => rw [List.find?_eq_none] at hfi; exact absurd ht (hfi i him)
  | some j =>
    have hc : (⟨x, v, j.a, j.b, hallX j l⟩ : Cs) ∈ toldC (fulls L) s l u := List.mem_flatMap.2 ⟨x, (hu x).2 hx, List.mem_filterMap.2 ⟨v, hv, by unfold mkC; rw [hfi]; rfl⟩⟩
    exact List.any_eq_true.2 ⟨_, hc, by simp⟩
theorem goes_iff {x v : Int} : goesC' (toldC (fulls L) s l u) x v = true ↔ goesH s l L x v := by
  refine ⟨fun h => ?_, told_all hL hu⟩
  obtain ⟨c, hc, h⟩ := List.any_eq_true.1 h
  simp only [Bool.and_eq_true, decide_eq_true_eq] at h
  have := told_goes hL hu hc
  rw [h.1, h.2] at this; exact this
theorem told_len (hs : ∀ d ∈ s, DG d) (hup : u.Pairwise (· < ·)) (hl : l.length ≤ 1000) : (toldC (fulls L) s l u).length ≤ 64000 := by
  have h1 := up_len hup hu
  have : ∀ w : List Int, (toldC (fulls L) s l w).length ≤ 64 * w.length := by
    intro w
    induction w with
    | nil => simp [toldC]
    | cons x w ih =>
      have e : toldC (fulls L) s l (x :: w) = (valsB s x).filterMap (mkC (fulls L) l x) ++ toldC (fulls L) s l w := by simp [toldC]
      rw [e, List.length_append, List.length_cons]
      have := List.length_filterMap_le (mkC (fulls L) l x) (valsB s x)
      have := valsB_small hs x
      omega
  have := this u
  omega
end

theorem over_iff {s : List Dom} (hs : ∀ d ∈ s, DG d) {l : List Int} (hl : ∀ x ∈ l, isB s x = true) {L K : List Iv} (hL : IvOk s l L) (hK : IvOk s l K) : overB L ↔ overB K :=
  have h : LessS s s l := ⟨fun _ _ => Int.le_refl _, fun _ _ => Int.le_refl _⟩
  ⟨less_over hs hs hl hl hL hK h, less_over hs hs hl hl hK hL h⟩

def valL (vs : List Int) (x : Int) : Int := vs.getD x.toNat 0
theorem clash_symm {vs : List Int} {x y : Int} (h : clash vs x y) : clash vs y x := ⟨h.2.2.1, h.2.2.2.1, h.1, h.2.1, h.2.2.2.2.symm⟩
theorem diff_iff {s : List Dom} {xs vs : List Int} (hn : vs.length = s.length) : Diff xs vs ↔ ((placesB s xs).map (valL vs)).Nodup := by
  have e1 : Diff xs vs ↔ xs.Pairwise fun x y => ¬ clash vs x y := by
    rw [List.pairwise_iff_getElem]
    constructor
    · intro h k i hk hi hki hc
      exact h i k xs[i] xs[k] hki (List.getElem?_eq_getElem hi) (List.getElem?_eq_getElem hk) (clash_symm hc)
    · intro h i k x y hki hx hy hc
      obtain ⟨hi, rfl⟩ := List.getElem?_eq_some_iff.1 hx
      obtain ⟨hk, rfl⟩ := List.getElem?_eq_some_iff.1 hy
      exact h k i hk hi hki (clash_symm hc)
  rw [e1, List.nodup_iff_pairwise_ne, List.pairwise_map]
  unfold placesB
  rw [List.pairwise_filter]
  constructor
  · intro h
    refine h.imp fun {x y} hc hx hy e => hc ?_
    have h1 := isB_iff.1 hx; have h2 := isB_iff.1 hy
    exact ⟨h1.1, by rw [hn]; exact h1.2, h2.1, by rw [hn]; exact h2.2, e⟩
  · intro h
    refine h.imp fun {x y} hc hcl => ?_
    obtain ⟨c1, c2, c3, c4, c5⟩ := hcl
    rw [hn] at c2 c4
    exact hc (isB_iff.2 ⟨c1, c2⟩) (isB_iff.2 ⟨c3, c4⟩) c5

end Go.Abs.G

namespace Go.Abs.G
open Go.Proofs
set_option linter.unusedVariables false
set_option linter.unusedSimpArgs false

end Go.Abs.G

namespace Go.Abs.G
open Go.Proofs
set_option linter.unusedVariables false
set_option linter.unusedSimpArgs false

theorem hallX_len (i : Iv) (l : List Int) : (hallX i l).length = i.w.length := by simp [hallX]
theorem hall_in {s : List Dom} {l : List Int} {L : List Iv} (hL : IvOk s l L) {i : Iv} (hi : i ∈ L) : ((hallX i l).all fun x => decide (i.a ≤ loB s x) && decide (hiB s x ≤ i.b)) = true := by
  rw [List.all_eq_true]
  intro x hx
  unfold hallX at hx
  obtain ⟨p, hp, rfl⟩ := List.mem_map.1 hx
  rw [(hL.mem i hi).2.1] at hp
  obtain ⟨h1, h2, h3⟩ := insB_mem.1 hp
  have e : l.getD p 0 = l[p] := by simp [List.getD, h1]
  rw [e]; simp [h2, h3]
theorem within_at {s : List Dom} (hs : ∀ d ∈ s, DG d) (any : List Int) {l : List Int} (hl : ∀ x ∈ l, isB s x = true) : ∀ x ∈ l, valL (withinW s any s.length) x ∈ valsB s x := fun x hx => by
  obtain ⟨h1, h2⟩ := isB_iff.1 (hl x hx)
  have h3 : x.toNat < s.length := by omega
  have : valL (withinW s any s.length) x = valW s any x.toNat := by simp [valL, withinW, List.getD, h3]
  rw [this]
  have := valW_mem hs any h3
  rw [show ((x.toNat : Nat) : Int) = x from Int.toNat_of_nonneg h1] at this
  exact this

/-- What Cuts has told. -/
structure Tol (s : List Dom) (l : List Int) (L : List Iv) (ok : Bool) (r : V) (C : List Cs) : Prop where
  iv : IvOk s l L
  over : ok = false → overB L ∧ r = nilS
  fine : ok = true → ¬ overB L ∧ r = .view 7 (C.map Cs.cells)
  why : ∀ c ∈ C, c.x ∈ l ∧ c.v ∈ valsB s c.x ∧ ∃ i ∈ L, i.full ∧ i.a ≤ c.v ∧ c.v ≤ i.b ∧ ¬ inIv s i c.x ∧ c.fr = i.a ∧ c.to = i.b ∧ c.xs = hallX i l
  goes : ok = true → ∀ x v, goesC' C x v = true ↔ goesH s l L x v
  n : C.length ≤ 64000
theorem cuts_tol {s : List Dom} {ms : List (List Dom)} (hs : Two s ms) (xs : List Int) (hx : xs.length ≤ 1000) :
    DC Tryz.prog hall_Cuts.id [vInts xs, .ptr 0 1 0 0] [ST s ms] (fun r H => (∃ L ok p C, Tol s (placesB s xs) L ok p C ∧ r = .tup [p, .bool ok]) ∧ H = [ST s ms]) := by
  refine DC.mono (cuts13_spec hs xs hx) fun r H ⟨⟨L, hL, hr⟩, hH⟩ => ⟨?_, hH⟩
  rcases hr with ⟨ho, rfl⟩ | ⟨ho, u, hu, hm, rfl⟩
  · exact ⟨L, false, _, [], ⟨hL, fun _ => ⟨ho, rfl⟩, (fun h => by cases h), (fun c hc => by cases hc), (fun h => by cases h), by simp⟩, rfl⟩
  · refine ⟨L, true, _, _, ⟨hL, (fun h => by cases h), fun _ => ⟨ho, rfl⟩, fun c hc => told_why hL hm hc, fun _ x v => goes_iff hL hm, ?_⟩, rfl⟩
    exact told_len hL hm hs.d hu (Nat.le_trans (List.length_filter_le _ _) hx)

theorem safe13_law (m : Model) (cuts : List DCut) (xs any : List Int) (hm : zModel m) (hc : zCuts cuts) (hx : zInts xs) (ha : zInts any) : Pf Tryz.prog hallmarklaw13_HallSafe.id [.agg m.cells, vCuts cuts, vInts xs, vInts any] (.bool true) := by
  refine DC.of hallmarklaw13_HallSafe.ok (by simp) ?_
  unfold hallmarklaw13_HallSafe.ir
  obtain ⟨B, hB⟩ : ∃ B, B = O.mem false [] [m.cells] := ⟨_, rfl⟩
  have hBr : B.refs = [] := by rw [hB]; rfl
  have hcl : (vCuts cuts).ids = [] := by simp [vCuts, V.ids]
  refine vc_cut (At [(1, vCuts cuts), (2, vInts xs), (3, vInts any), (4, .ptr 0 1 0 0)] [B]) (by simp -dsimp [At, hB, Model.cells, vVars, vCons, vTerms]) ?_
  try clear h
  rintro ⟨sl, hp, bs⟩ ⟨rfl, h⟩
  simp only [sls_cons, sls_one, sls_nil] at h
  refine vc_cut (fun st => xs.length ≤ 70 ∧ any.length ≤ 20000 ∧ At [(1, vCuts cuts), (2, vInts xs), (3, vInts any), (4, .ptr 0 1 0 0)] [B] st) ?_ ?_
  · simp -dsimp [h, hB, Model.cells, vVars, vCons, vTerms]
    refine gcall_gen (few13_spec m (cuts.map DCut.cells) xs hm.1 (by simpa using hc.1)) (by simp -dsimp [h, Model.cells, vVars, vCons, vTerms, vCuts]) (by simp [Model.cells, vVars, vCons, vTerms, vInts]) ?_
    rintro r ⟨b, rfl, hb⟩
    by_cases hal : 20000 < any.length
    · have hal' : 20000 < (any.length : Int) := by omega
      cases b <;> simp -dsimp [h, vInts, hal, hal', hallmarklaw13_HallSafe.rs]
    · have hal' : ¬ 20000 < (any.length : Int) := by omega
      cases b
      · simp -dsimp [h, vInts, hal, hal', hallmarklaw13_HallSafe.rs]
      · simp -dsimp [h, vInts, hal, hal', At, hB, Model.cells, vVars, vCons, vTerms]
        exact ⟨hb rfl, by omega⟩
  rintro ⟨sl, hp, bs⟩ ⟨hx70, hal, rfl, h⟩; simp only [sls_cons, sls_one] at h
  refine vc_cut (At [(1, vCuts cuts), (2, vInts xs), (3, vInts any), (4, .ptr 0 1 0 0)] [B]) ?_ ?_
  · simp -dsimp [h]
    refine gcall known13_spec (by simp -dsimp [h]) (by simp -dsimp [h]) ?_
    simp -dsimp [h, At]
  try clear h
  rintro ⟨sl, hp, bs⟩ ⟨rfl, h⟩
  simp only [sls_cons, sls_one, sls_nil] at h
  obtain ⟨s, hs⟩ : ∃ s, s = cutAll (domsOf m) cuts := ⟨_, rfl⟩
  have hT : Two s [] := by rw [hs]; exact cutAll_two (Two.new m) _
  have hn := hT.n
  have hbeh := behind13_spec m cuts hm hc.1
  rw [← hs] at hbeh
  refine vc_cut (At [(2, vInts xs), (3, vInts any), (9, .ptr 1 1 0 0)] [B, ST s []]) ?_ ?_
  · simp -dsimp [h, hB, Model.cells, vVars, vCons, vTerms]
    refine gcallo hbeh (by simp -dsimp [h, Model.cells, vVars, vCons, vTerms]) (by simp [Model.cells, vVars, vCons, vTerms, vCuts]) (by simp) ?_
    simp -dsimp [h, At, hB, Model.cells, vVars, vCons, vTerms]
  try clear h
  rintro ⟨sl, hp, bs⟩ ⟨rfl, h⟩
  simp only [sls_cons, sls_one, sls_nil] at h
  refine vc_cut (At [(2, vInts xs), (3, vInts any), (9, .ptr 1 1 0 0)] [B, ST s []]) (by simp -dsimp [h, At]) ?_
  try clear h
  rintro ⟨sl, hp, bs⟩ ⟨rfl, h⟩
  simp only [sls_cons, sls_one, sls_nil] at h
  obtain ⟨l, hl⟩ : ∃ l, l = placesB s xs := ⟨_, rfl⟩
  have hlB : ∀ x ∈ l, isB s x = true := fun x hx => by rw [hl] at hx; exact placesB_is hx
  have hll : l.length ≤ 70 := by rw [hl]; exact Nat.le_trans (List.length_filter_le _ _) hx70
  have hcut := cuts_tol hT xs (by omega)
  have hfail := fails_spec hT xs (by omega)
  rw [← hl] at hcut hfail
  refine vc_cut (fun st => ∃ L ok p C, Tol s l L ok p C ∧ At [(2, vInts xs), (3, vInts any), (9, .ptr 1 1 0 0), (10, p), (11, .bool ok)] [B, ST s []] st) ?_ ?_
  · simp -dsimp [h]
    refine gcallm_gen hcut [1] (by simp -dsimp [h, addAll, vInts]) ⟨by simp, by simp, by simp, by simp⟩ (by simp -dsimp [h, idx, List.idxOf_cons, vInts]) (by simp [sub]) (by simp) ?_
    rintro r H ⟨⟨L, ok, p, C, hTo, rfl⟩, rfl⟩
    have hpr : ∀ f, V.ren f p = p := fun f => by
      cases ok
      · rw [(hTo.over rfl).2]; rfl
      · rw [(hTo.fine rfl).2]; rfl
    simp -dsimp [h, merge, place, back, At, hpr]
    refine ⟨L, ?_⟩
    cases ok
    · exact .inl ⟨p, ⟨C, hTo⟩, rfl, rfl⟩
    · exact .inr ⟨p, ⟨C, hTo⟩, rfl, rfl⟩
  clear h
  rintro ⟨sl, hp, bs⟩ ⟨L, ok, p, C, hTo, rfl, h⟩; simp only [sls_cons, sls_one] at h
  have hpi : p.ids = [] := by
    cases ok
    · rw [(hTo.over rfl).2]; rfl
    · rw [(hTo.fine rfl).2]; rfl
  refine vc_cut (fun st => (ok = false ∧ ∃ K i, IvOk s l K ∧ i ∈ K ∧ i.over ∧ At [(2, vInts xs), (3, vInts any), (9, .ptr 1 1 0 0), (10, p), (11, .bool ok), (12, .ptr 2 1 0 0), (13, .bool true)] [B, ST s [], .mem false [] [hallV i l]] st) ∨ (ok = true ∧ At [(2, vInts xs), (3, vInts any), (9, .ptr 1 1 0 0), (10, p), (11, .bool ok), (12, .ptr 2 1 0 0), (13, .bool false)] [B, ST s [], .mem false [] [[V.i 0, V.i 0, nilS]]] st)) ?_ ?_
  · simp -dsimp [h]
    refine gcallm_gen hfail [1] (by simp -dsimp [h, addAll, vInts]) ⟨by simp, by simp, by simp, by simp⟩ (by simp -dsimp [h, idx, List.idxOf_cons, vInts]) (by simp [sub]) (by simp) ?_
    rintro r H ⟨⟨K, hK, hr⟩, rfl⟩
    have hoi := over_iff hT.d hlB hTo.iv hK
    rcases hr with ⟨i, hi, hio, rfl⟩ | ⟨ho, rfl⟩
    · have hok : ok = false := by
        cases ok
        · rfl
        · exact ((hTo.fine rfl).1 (hoi.2 ⟨i, hi, hio⟩)).elim
      subst hok
      simp -dsimp [h, merge, place, back, At, hallV, vInts, hpi]
      exact ⟨K, hK, i, hi, hio, rfl, rfl, rfl⟩
    · have hok : ok = true := by
        cases ok
        · exact (ho (hoi.1 (hTo.over rfl).1)).elim
        · rfl
      subst hok
      simp -dsimp [h, merge, place, back, At, vInts, hpi]
  clear h
  intro st0 h0
  refine vc_cut (fun st => ∃ R : O, R.refs = [] ∧ At [(2, vInts xs), (3, vInts any), (9, .ptr 1 1 0 0), (10, p), (11, .bool ok)] [B, ST s [], R] st) ?_ ?_
  · obtain ⟨sl, hp, bs⟩ := st0
    rcases h0 with (⟨rfl, K, i, hK, hi, hio, rfl, h⟩ | ⟨rfl, rfl, h⟩) <;> simp only [sls_cons, sls_one] at h
    · obtain ⟨m1, m2, m3, m4⟩ := hK.mem i hi
      have hXl := hallX_len i l
      have hwl : i.w.length ≤ 70 := by have := (hK.lt hi).2; omega
      have hin := inside13_spec hT i.a i.b (hallX i l) (by omega)
      rw [hall_in hK hi] at hin
      obtain ⟨X, hX⟩ : ∃ X, X = hallX i l := ⟨_, rfl⟩
      have hV : hallV i l = [V.i i.a, V.i i.b, vInts X] := by rw [hX]; rfl
      rw [← hX] at hXl hin
      unfold Iv.over at hio
      have hno : ¬ ((X.length : Int) ≤ i.b - i.a + 1) := by omega
      have w1 : IntKind.i64.wrap (i.b - i.a) = i.b - i.a := wrap64 (by omega) (by omega)
      have w2 : IntKind.i64.wrap (i.b - i.a + 1) = i.b - i.a + 1 := wrap64 (by omega) (by omega)
      simp only [hallCells, vInts] at hin
      simp -dsimp [h, hV, w1, w2, hno, vInts]
      refine gcallm1 (hin) 1 (by simp -dsimp [h, addAll]) (by simp -dsimp [h]) (by simp) (by simp) (by simp) (by simp -dsimp [h, idx]) (by simp) ?_
      simp -dsimp [h, At, hV, vInts, hpi]
    · simp -dsimp [h, At, vInts, hpi]
  clear hfail hcut h0
  rintro ⟨sl, hp, bs⟩ ⟨R, hR, rfl, h⟩; simp only [sls_cons, sls_one] at h
  refine vc_cut (At [(2, vInts xs), (3, vInts any), (9, .ptr 1 1 0 0), (10, p), (11, .bool ok)] [B, ST s [], R]) ?_ ?_
  · refine vc_cut (At [(2, vInts xs), (3, vInts any), (9, .ptr 1 1 0 0), (10, p), (11, .bool ok), (14, V.i 0)] [B, ST s [], R]) (by simp -dsimp [h, At]) ?_
    try clear h
    rintro ⟨sl, hp, bs⟩ ⟨rfl, h⟩
    simp only [sls_cons, sls_one, sls_nil] at h
    cases ok
    · have hp0 := (hTo.over rfl).2
      subst hp0
      refine vc_block_of (vc_upto 3 (by simp) 0 (fun i st => At [(2, vInts xs), (3, vInts any), (9, .ptr 1 1 0 0), (10, nilS), (11, .bool false), (14, V.i 0)] [B, ST s [], R] st) ⟨rfl, by simpa using h⟩ ?_)
      clear h
      rintro i ⟨sl, hp, bs⟩ hi ⟨rfl, h⟩
      simp only [sls_cons, sls_one] at h
      unfold hallmarklaw13_HallSafe.b0
      simp -dsimp [h, At]
    · have hp0 := (hTo.fine rfl).2
      refine vc_block_of (vc_upto 3 (by simp) C.length (fun i st => At [(2, vInts xs), (3, vInts any), (9, .ptr 1 1 0 0), (10, p), (11, .bool true), (14, V.i i)] [B, ST s [], R] st) ⟨rfl, by simpa using h⟩ ?_)
      clear h
      rintro i ⟨sl, hp, bs⟩ hi ⟨rfl, h⟩
      simp only [sls_cons, sls_one] at h
      unfold hallmarklaw13_HallSafe.b0
      have hCn := hTo.n
      by_cases hil : i < C.length
      · have hil' : (i : Int) < C.length := by omega
        have hw : IntKind.i64.wrap ((i : Int) + 1) = ((i + 1 : Nat) : Int) := by rw [wrap64] <;> omega
        obtain ⟨c, hc'⟩ : ∃ c, c = C[i] := ⟨_, rfl⟩
        have hcm : c ∈ C := by rw [hc']; exact List.getElem_mem _
        obtain ⟨k1, k2, j, hj, k3, k4, k5, k6, k7, k8, k9⟩ := hTo.why c hcm
        obtain ⟨m1, m2, m3, m4⟩ := hTo.iv.mem j hj
        have hXl := hallX_len j l
        have hwl : j.w.length ≤ 70 := by have := (hTo.iv.lt hj).2; omega
        have hin := inside13_spec hT j.a j.b (hallX j l) (by omega)
        rw [hall_in hTo.iv hj] at hin
        have hcc : c.cells = [V.i 0, V.i 3, V.i c.x, V.i c.v, V.i j.a, V.i j.b, vInts (hallX j l)] := by unfold Cs.cells; rw [k7, k8, k9]
        obtain ⟨X, hX⟩ : ∃ X, X = hallX j l := ⟨_, rfl⟩
        rw [← hX] at hXl hin hcc
        unfold Iv.full at k3
        have hye : (X.length : Int) = j.b - j.a + 1 := by omega
        have w1 : IntKind.i64.wrap (j.b - j.a) = j.b - j.a := wrap64 (by omega) (by omega)
        have w2 : IntKind.i64.wrap (j.b - j.a + 1) = j.b - j.a + 1 := wrap64 (by omega) (by omega)
        have n1 : ¬ c.v < j.a := by omega
        have n2 : ¬ j.b < c.v := by omega
        have hvr := vals_mem hT.d k2
        have hhas := hasT hT c.x c.v ⟨by omega, by omega⟩
        rw [decide_eq_true k2] at hhas
        simp only [hallCells, vInts] at hin
        have hpC : p = V.view 7 (C.map Cs.cells) := hp0
        refine vc_cut (At [(2, vInts xs), (3, vInts any), (9, .ptr 1 1 0 0), (10, p), (11, .bool true), (14, V.i i)] [B, ST s [], R]) (by simp -dsimp [h, At, hpC, hil, hil']) ?_
        try clear h
        rintro ⟨sl, hp, bs⟩ ⟨rfl, h⟩
        simp only [sls_cons, sls_one, sls_nil] at h
        refine vc_cut (At [(2, vInts xs), (3, vInts any), (9, .ptr 1 1 0 0), (10, p), (11, .bool true), (14, V.i i)] [B, ST s [], R, .mem false [] [[V.i j.a, V.i j.b, vInts X]], .mem false [] [[V.i 3, V.i c.x, V.i c.v]]]) ?_ ?_
        · refine vc_block_of ?_
          by_cases o1 : j.a ≤ loB s c.x
          · have o2 : ¬ hiB s c.x ≤ j.b := fun e => k6 ⟨o1, e⟩
            simp -dsimp [h, hpC, hil, hil', ← hc', hcc, w1, w2, hye, vInts]
            refine gcalla1 (hin) 1 (by simp -dsimp [h, hpC, n1, n2, w1, w2, hye, vInts, addAll]) (by simp) (by simp) (by simp) (by simp) (by simp -dsimp [h, hpC, n1, n2, w1, w2, hye, vInts]) (by simp -dsimp [h, hpC, n1, n2, w1, w2, hye, vInts, idx]) (by simp) ?_
            simp -dsimp [h, hpC, n1, n2, w1, w2, hye, vInts]
            refine gcalla1 (loT hT c.x) 1 (by simp -dsimp [h, hpC, o1, vInts, addAll]) (by simp) (by simp) (by simp) (by simp) (by simp -dsimp [h, hpC, o1, vInts]) (by simp -dsimp [h, hpC, o1, vInts, idx]) (by simp) ?_
            simp -dsimp [h, hpC, o1, vInts]
            refine gcalla1 (hiT hT c.x) 1 (by simp -dsimp [h, hpC, o1, o2, vInts, addAll]) (by simp) (by simp) (by simp) (by simp) (by simp -dsimp [h, hpC, o1, o2, vInts]) (by simp -dsimp [h, hpC, o1, o2, vInts, idx]) (by simp) ?_
            simp -dsimp [h, hpC, o1, o2, vInts]
            refine gcalla1 (hhas) 1 (by simp -dsimp [h, hpC, o1, o2, vInts, At, addAll]) (by simp) (by simp) (by simp) (by simp) (by simp -dsimp [h, hpC, o1, o2, vInts, At]) (by simp -dsimp [h, hpC, o1, o2, vInts, At, idx]) (by simp) ?_
            simp -dsimp [h, hpC, o1, o2, vInts, At]
          · simp -dsimp [h, hpC, hil, hil', ← hc', hcc, w1, w2, hye, vInts]
            refine gcalla1 (hin) 1 (by simp -dsimp [h, hpC, n1, n2, w1, w2, hye, vInts, addAll]) (by simp) (by simp) (by simp) (by simp) (by simp -dsimp [h, hpC, n1, n2, w1, w2, hye, vInts]) (by simp -dsimp [h, hpC, n1, n2, w1, w2, hye, vInts, idx]) (by simp) ?_
            simp -dsimp [h, hpC, n1, n2, w1, w2, hye, vInts]
            refine gcalla1 (loT hT c.x) 1 (by simp -dsimp [h, hpC, o1, vInts, addAll]) (by simp) (by simp) (by simp) (by simp) (by simp -dsimp [h, hpC, o1, vInts]) (by simp -dsimp [h, hpC, o1, vInts, idx]) (by simp) ?_
            simp -dsimp [h, hpC, o1, vInts]
            refine gcalla1 (hhas) 1 (by simp -dsimp [h, hpC, o1, vInts, At, addAll]) (by simp) (by simp) (by simp) (by simp) (by simp -dsimp [h, hpC, o1, vInts, At]) (by simp -dsimp [h, hpC, o1, vInts, At, idx]) (by simp) ?_
            simp -dsimp [h, hpC, o1, vInts, At]
        try clear h
        rintro ⟨sl, hp, bs⟩ ⟨rfl, h⟩
        simp only [sls_cons, sls_one, sls_nil] at h
        simp -dsimp [h, At, hw, hil, hBr, hR, hpi, vInts]
      · have hil' : ¬ (i : Int) < C.length := by omega
        simp -dsimp [h, hil', hp0, At]
  try clear h
  rintro ⟨sl, hp, bs⟩ ⟨rfl, h⟩
  simp only [sls_cons, sls_one, sls_nil] at h
  obtain ⟨vs, hvs⟩ : ∃ vs, vs = withinW s any s.length := ⟨_, rfl⟩
  have hvl : vs.length = s.length := by rw [hvs]; simp [withinW]
  have hw13 := within13_spec hT any (by omega)
  rw [← hvs] at hw13
  have hdf := different_spec xs vs (by omega) (by omega)
  have hd := diff_iff (s := s) (xs := xs) (vs := vs) (by omega)
  rw [← hl] at hd
  have hval : ∀ x ∈ l, valL vs x ∈ valsB s x := by rw [hvs]; exact within_at hT.d any hlB
  refine vc_cut (At [(2, vInts xs), (10, p), (11, .bool ok), (17, vInts vs)] [B, ST s [], R]) ?_ ?_
  · simp -dsimp [h]
    refine gcallm1 hw13 1 (by simp -dsimp [h, addAll, vInts]) (by simp -dsimp [h]) (by simp) (by simp) (by simp) (by simp -dsimp [h, idx, vInts]) (by simp) ?_
    simp -dsimp [h, At, vInts]
  try clear h
  rintro ⟨sl, hp, bs⟩ ⟨rfl, h⟩
  simp only [sls_cons, sls_one, sls_nil] at h
  refine vc_cut (fun st => Diff xs vs ∧ At [(10, p), (11, .bool ok), (17, vInts vs)] [B, ST s [], R] st) ?_ ?_
  · simp -dsimp [h]
    refine gcall_gen hdf (by simp -dsimp [h]) (by simp [vInts]) ?_
    rintro r ⟨b, rfl, hb⟩
    cases b
    · simp -dsimp [h, hallmarklaw13_HallSafe.rs]
    · simp -dsimp [h, At]
      exact hb.1 rfl
  rintro ⟨sl, hp, bs⟩ ⟨hD, rfl, h⟩; simp only [sls_cons, sls_one] at h
  have hnd := hd.1 hD
  have hok : ok = true := by
    cases ok
    · exact (safe_over hT.d hlB hTo.iv hval hnd (hTo.over rfl).1).elim
    · rfl
  subst hok
  obtain ⟨ho, hpC⟩ := hTo.fine rfl
  have hgo := hTo.goes rfl
  have hCn := hTo.n
  refine vc_cut (At [(11, .bool true)] [B, ST s [], R]) ?_ ?_
  · refine vc_cut (At [(10, p), (11, .bool true), (17, vInts vs), (18, V.i 0)] [B, ST s [], R]) (by simp -dsimp [h, At]) ?_
    try clear h
    rintro ⟨sl, hp, bs⟩ ⟨rfl, h⟩
    simp only [sls_cons, sls_one, sls_nil] at h
    refine vc_block_of (vc_upto 3 (by simp) vs.length (fun i st => At [(10, p), (11, .bool true), (17, vInts vs), (18, V.i i)] [B, ST s [], R] st) ⟨rfl, by simpa using h⟩ ?_)
    clear h
    rintro i ⟨sl, hp, bs⟩ hi ⟨rfl, h⟩
    simp only [sls_cons, sls_one] at h
    unfold hallmarklaw13_HallSafe.b1
    by_cases hil : i < vs.length
    · have hil' : (i : Int) < vs.length := by omega
      have hw : IntKind.i64.wrap ((i : Int) + 1) = ((i + 1 : Nat) : Int) := by rw [wrap64] <;> omega
      have hno : goesC' C i vs[i] = false := by
        cases hg : goesC' C i vs[i]
        · rfl
        · have h1 := safe_goes hT.d hlB hTo.iv hval hnd ((hgo _ _).1 hg)
          exact (h1 (by simp [valL, List.getD, hil])).elim
      obtain ⟨v, hv⟩ : ∃ v, v = vs[i] := ⟨_, rfl⟩
      rw [← hv] at hno
      have hgs := goes13_spec C i v (by omega)
      rw [hno, ← hpC] at hgs
      simp -dsimp [h, hil, hil', vInts, ← hv]
      refine gcall (hgs) (by simp -dsimp [h, At, hil, hil', hw, hBr, hR, hpi, vInts]) (by simp -dsimp [h, At, hil, hil', hw, hBr, hR, hpi, vInts]) ?_
      simp -dsimp [h, At, hil, hil', hw, hBr, hR, hpi, vInts]
    · have hil' : ¬ (i : Int) < vs.length := by omega
      simp -dsimp [h, hil', vInts, At]
  try clear h
  rintro ⟨sl, hp, bs⟩ ⟨rfl, h⟩
  simp only [sls_cons, sls_one, sls_nil] at h
  simp -dsimp [h, hallmarklaw13_HallSafe.rs]
end Go.Abs.G
