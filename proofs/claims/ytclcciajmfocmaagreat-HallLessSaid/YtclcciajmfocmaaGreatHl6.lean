import Derived.Test.YtclcciajmfocmaaGreatHl5
set_option linter.all false
namespace Go.Abs.G
open Go.Proofs
set_option linter.unusedVariables false
set_option linter.unusedSimpArgs false

theorem cloneI_raw (rows : List (List V)) (hb : (rows.length : Int) * 8 ≤ 140737488355328) (hren : ∀ f, rows.map (fun r => V.renL f r) = rows) : DC Tryz.prog slices_Clone_Lint_int.id [.view 1 rows] [] (fun r H => r = .own 0 1 0 rows.length rows.length ∧ H = [.mem false [] rows]) := by
  refine DC.picks (Q := fun r H => r = .own 0 1 0 rows.length rows.length ∧ ∃ E, H = .mem false [] rows :: E) ?_ ?_
  rotate_left
  · rintro r H ⟨rfl, E, rfl⟩
    exact ⟨[0], ⟨by simp, by simp, by simp, by simp⟩, by simp, by simp [V.ids], rfl, by simp [sub, hren]⟩
  refine DC.ownnil (Q := fun r H => (rows = [] ∧ r = .a (.slice none 0 0) ∧ H = []) ∨ (r = .own 0 1 0 rows.length rows.length ∧ ∃ E, H = .mem false [] rows :: E)) ?_ ?_
  rotate_left
  · rintro r H (⟨h, rfl, rfl⟩ | ⟨rfl, E, rfl⟩)
    · subst h; exact .inr ⟨1, .inl rfl, rfl, [], rfl⟩
    · exact .inl ⟨rfl, E, rfl⟩
  by_cases hr : rows = []
  · subst hr
    refine DC.view_nil ?_ fun ad c => ?_
    · refine DC.of slices_Clone_Lint_int.ok (by simp) ?_
      simp -dsimp [slices_Clone_Lint_int.ir, slices_Clone_Lint_int.rs]
    · refine DC.of slices_Clone_Lint_int.ok (by simp) ?_
      simp -dsimp [slices_Clone_Lint_int.ir, slices_Clone_Lint_int.rs]
  · refine DC.of slices_Clone_Lint_int.ok (by simp) ?_
    have hl : ¬ (rows.length : Int) = 0 := by
      have := List.length_pos_iff.2 hr
      omega
    simp -dsimp [slices_Clone_Lint_int.ir, slices_Clone_Lint_int.rs, hr, hl, hb]
theorem cloneI_own_raw (rows : List (List V)) (n : Nat) (hn : n ≤ rows.length) (hb : (n : Int) * 8 ≤ 140737488355328) (hren : ∀ f, rows.map (fun r => V.renL f r) = rows) (hren2 : ∀ f, (rows.take n).map (fun r => V.renL f r) = rows.take n) : DC Tryz.prog slices_Clone_Lint_int.id [.own 0 1 0 n rows.length] [.mem false [] rows] (fun r H => r = .own 1 1 0 n n ∧ H = [.mem false [] rows, .mem false [] (rows.take n)]) := by
  refine DC.picks (Q := fun r H => r = .own 1 1 0 n n ∧ ∃ E, H = .mem false [] rows :: .mem false [] (rows.take n) :: E) ?_ ?_
  rotate_left
  · rintro r H ⟨rfl, E, rfl⟩
    exact ⟨[0, 1], ⟨by simp, by simp, by simp, by simp⟩, by simp, by simp [V.ids], rfl, by simp [sub, hren, hren2]⟩
  refine DC.ownnil (Q := fun r H => (n = 0 ∧ r = .a (.slice none 0 0) ∧ H = [.mem false [] rows]) ∨ (r = .own 1 1 0 n n ∧ ∃ E, H = .mem false [] rows :: .mem false [] (rows.take n) :: E)) ?_ ?_
  rotate_left
  · rintro r H (⟨h, rfl, rfl⟩ | ⟨rfl, E, rfl⟩)
    · subst h; exact .inr ⟨1, .inl rfl, rfl, [], rfl⟩
    · exact .inl ⟨rfl, E, rfl⟩
  by_cases h0 : n = 0
  · subst h0
    refine DC.own0g rfl rfl fun ad c hc => ?_
    cases ad with
    | none =>
      obtain rfl := hc rfl
      refine DC.of slices_Clone_Lint_int.ok (by simp) ?_
      simp -dsimp [slices_Clone_Lint_int.ir, slices_Clone_Lint_int.rs]
    | some ad =>
      refine DC.of slices_Clone_Lint_int.ok (by simp) ?_
      simp -dsimp [slices_Clone_Lint_int.ir, slices_Clone_Lint_int.rs]
  · refine DC.of slices_Clone_Lint_int.ok (by simp) ?_
    have hl : ¬ (n : Int) = 0 := by omega
    have hm : min n rows.length = n := by omega
    simp -dsimp [slices_Clone_Lint_int.ir, slices_Clone_Lint_int.rs, hl, hb, hm, hn]
    exact h0
theorem cloneI (l : List Int) (hb : (l.length : Int) * 8 ≤ 140737488355328) : DC Tryz.prog slices_Clone_Lint_int.id [vInts l] [] (fun r H => r = .own 0 1 0 l.length l.length ∧ H = [.mem false [] (ri l)]) := by
  have := cloneI_raw (ri l) (by rw [ri_len]; exact hb) fun f => ri_ren f l
  rw [ri_len] at this; exact this
theorem cloneI_own (l : List Int) (n : Nat) (hn : n ≤ l.length) (hb : (n : Int) * 8 ≤ 140737488355328) : DC Tryz.prog slices_Clone_Lint_int.id [.own 0 1 0 n l.length] [.mem false [] (ri l)] (fun r H => r = .own 1 1 0 n n ∧ H = [.mem false [] (ri l), .mem false [] (ri (l.take n))]) := by
  have := cloneI_own_raw (ri l) n (by rw [ri_len]; exact hn) hb (fun f => ri_ren f l) (fun f => by rw [ri_take]; exact ri_ren f _)
  rw [ri_len, ri_take] at this; exact this

/-- A script. -/
def SC (l : List Int) : O := .mem false [] [[vInts l]]
theorem SC_clo' (l : List Int) : (SC l).clo := ⟨rfl, fun f => by simp [SC, vInts], fun e => by cases e⟩
/-- The document's script. -/
def SR (l : List Int) (k : Nat) : O := .mem false [] [[vInts l, V.i k]]
theorem SR_clo' (l : List Int) (k : Nat) : (SR l k).clo := ⟨rfl, fun f => by simp [SR, vInts], fun e => by cases e⟩
section
variable (l : List Int) (k : Nat)
@[simp] theorem SC_clo : (SC l).clo = True := eq_true (SC_clo' l)
@[simp] theorem SC_isMem : (SC l).isMem = true := rfl
@[simp] theorem SC_refs : (SC l).refs = [] := rfl
@[simp] theorem SC_rows : (SC l).rows = [[vInts l]] := rfl
@[simp] theorem SC_tot (n : Nat) : (SC l).hasTot n = (1 = n) := rfl
@[simp] theorem SC_ren (f : Nat → Nat) : O.ren f (SC l) = SC l := (SC_clo' l).ren f
@[simp] theorem SC_nres : (SC l = .res) = False := eq_false (SC_clo' l).nres
@[simp] theorem SR_clo : (SR l k).clo = True := eq_true (SR_clo' l k)
@[simp] theorem SR_isMem : (SR l k).isMem = true := rfl
@[simp] theorem SR_refs : (SR l k).refs = [] := rfl
@[simp] theorem SR_rows : (SR l k).rows = [[vInts l, V.i k]] := rfl
@[simp] theorem SR_tot (n : Nat) : (SR l k).hasTot n = (1 = n) := rfl
@[simp] theorem SR_ren (f : Nat → Nat) : O.ren f (SR l k) = SR l k := (SR_clo' l k).ren f
@[simp] theorem SR_nres : (SR l k = .res) = False := eq_false (SR_clo' l k).nres
end
end Go.Abs.G


namespace Go.Abs.G
open Go.Proofs
set_option linter.unusedVariables false
set_option linter.unusedSimpArgs false

theorem ownP_succ (l : List Int) (x : Int) (n : Nat) : ((List.range (n + 1)).filter fun p => decide (l.getD p 0 = x)) = if l.getD n 0 = x then ((List.range n).filter fun p => decide (l.getD p 0 = x)) ++ [n] else (List.range n).filter fun p => decide (l.getD p 0 = x) := by
  rw [List.range_succ, List.filter_append]
  have e : ([n].filter fun p => decide (l.getD p 0 = x)) = if l.getD n 0 = x then [n] else [] := by
    simp only [List.filter_cons, List.filter_nil, decide_eq_true_eq]
  rw [e]
  split
  · rfl
  · rw [List.append_nil]
def ownK (l : List Int) (x : Int) (n : Nat) : List Nat := (List.range n).filter fun p => decide (l.getD p 0 = x)
theorem pN_len (l : List Nat) : (pN l).length = l.length := by simp [pN]
theorem eqD_words {ws vs : List Nat} (h1 : ws.length = 64) (h2 : vs.length = 64) :
    (((List.range 64).map fun k => (k, 0)).all fun o : Nat × Nat => eqK ((ws.map V.q).getD o.1 .any) ((vs.map V.q).getD o.1 .any)) = decide (ws = vs) := by
  rw [Bool.eq_iff_iff, List.all_eq_true, decide_eq_true_eq]
  constructor
  · intro h
    refine List.ext_getElem (by omega) fun k k1 k2 => ?_
    have := h (k, 0) (List.mem_map.2 ⟨k, List.mem_range.2 (by omega), rfl⟩)
    simp only [List.getD_eq_getElem?_getD, List.getElem?_map, List.getElem?_eq_getElem k1, List.getElem?_eq_getElem k2, Option.map_some, Option.getD_some] at this
    have h9 : ((ws[k] : Nat) : Int) = vs[k] := by simpa [eqK] using this
    omega
  · rintro rfl o ho
    obtain ⟨k, hk, rfl⟩ := List.mem_map.1 ho
    have hk : k < 64 := List.mem_range.1 hk
    have k1 : k < ws.length := by omega
    simp only [List.getD_eq_getElem?_getD, List.getElem?_map, List.getElem?_eq_getElem k1, Option.map_some, Option.getD_some]
    simp [eqK]

theorem eqD_at {offs : List (Nat × Nat)} (ho : offs = (List.range 64).map fun k => (k, 0)) {st : St} {a b : Operand} {ws vs : List Nat} (h1 : st.ev a = .agg (ws.map V.q)) (h2 : st.ev b = .agg (vs.map V.q)) (l1 : ws.length = 64) (l2 : vs.length = 64) :
    (L.eqD false offs a b).pre st ∧ (L.eqD false offs a b).val st = .bool (decide (ws = vs)) := by
  constructor
  · show (match st.ev a, st.ev b with | .agg cs, .agg ds => ∀ o ∈ offs, isK o.2 (cs.getD o.1 .any) (ds.getD o.1 .any) = true | _, _ => False)
    rw [h1, h2, ho]
    intro o hm
    obtain ⟨k, hk, rfl⟩ := List.mem_map.1 hm
    have hk : k < 64 := List.mem_range.1 hk
    have k1 : k < ws.length := by omega
    have k2 : k < vs.length := by omega
    simp only [List.getD_eq_getElem?_getD, List.getElem?_map, List.getElem?_eq_getElem k1, List.getElem?_eq_getElem k2, Option.map_some, Option.getD_some]
    simp [isK]
  · show V.bool ((offs.all fun o => eqK ((st.ev a).cells.getD o.1 .any) ((st.ev b).cells.getD o.1 .any)) ^^ false) = _
    rw [h1, h2, ho, Bool.xor_false]
    exact congrArg V.bool (eqD_words l1 l2)
theorem holds13_spec (i : Iv) (l : List Int) (x : Int) (hx : x ∈ l) (hl : l.length ≤ 1000) (hw : ∀ p ∈ i.w, p < l.length) (hwl : i.w.length ≤ 1000) :
    Pf Tryz.prog hall_holds.id [.agg i.cells, vInts l, V.i x] (.bool (decide (∀ p ∈ ownK l x l.length, p ∈ i.w))) := by
  refine DC.of hall_holds.ok (by simp) ?_
  unfold hall_holds.ir
  obtain ⟨B, hB⟩ : ∃ B, B = O.mem false [] [i.cells] := ⟨_, rfl⟩
  have hBr : B.refs = [] := by rw [hB]; rfl
  have hcl : i.cells = [V.i i.a, V.i i.b, vInts (pN i.w)] := rfl
  have hne : ownK l x l.length ≠ [] := by
    obtain ⟨q, hq, hqx⟩ := List.getElem_of_mem hx
    exact List.ne_nil_of_mem (List.mem_filter.2 ⟨List.mem_range.2 hq, by simp [List.getD, hq, hqx]⟩)
  have hoK : ∀ n, (ownK l x n).length ≤ n := fun n => Nat.le_trans (List.length_filter_le _ _) (by simp)
  refine vc_cut (At [(1, vInts l), (2, V.i x), (3, .ptr 0 1 0 0)] [B]) (by simp -dsimp [At, hB, hcl, vInts]) ?_
  try clear h
  rintro ⟨sl, hp, bs⟩ ⟨rfl, h⟩
  simp only [sls_cons, sls_one, sls_nil] at h
  refine vc_cut (At [(1, vInts l), (2, V.i x), (3, .ptr 0 1 0 0), (7, nilS)] [B]) (by simp -dsimp [h, At]) ?_
  try clear h
  rintro ⟨sl, hp, bs⟩ ⟨rfl, h⟩
  simp only [sls_cons, sls_one, sls_nil] at h
  refine vc_cut (fun st => At [(1, vInts l), (2, V.i x), (3, .ptr 0 1 0 0), (7, .own 2 1 0 (ownK l x l.length).length (ownK l x l.length).length)] [B, .res, .mem false [] (ri (pN (ownK l x l.length)))] st) ?_ ?_
  · refine vc_cut (At [(1, vInts l), (2, V.i x), (3, .ptr 0 1 0 0), (7, nilS), (11, V.i l.length), (12, V.i 0)] [B]) (by simp -dsimp [h, At, vInts]) ?_
    try clear h
    rintro ⟨sl, hp, bs⟩ ⟨rfl, h⟩
    simp only [sls_cons, sls_one, sls_nil] at h
    refine vc_block_of (vc_upto 3 (by simp) l.length (fun k st => (ownK l x k = [] ∧ At [(1, vInts l), (2, V.i x), (3, .ptr 0 1 0 0), (7, nilS), (11, V.i l.length), (12, V.i k)] [B] st) ∨ At [(1, vInts l), (2, V.i x), (3, .ptr 0 1 0 0), (7, .own 2 1 0 (ownK l x k).length (ownK l x k).length), (11, V.i l.length), (12, V.i k)] [B, .res, .mem false [] (ri (pN (ownK l x k)))] st) (.inl ⟨rfl, rfl, by simpa using h⟩) ?_)
    clear h
    rintro k ⟨sl, hp, bs⟩ hk hh
    unfold hall_holds.b0
    by_cases hil : k < l.length
    · have hil' : (k : Int) < l.length := by omega
      have hw1 : IntKind.i64.wrap ((k : Int) + 1) = ((k + 1 : Nat) : Int) := by rw [wrap64] <;> omega
      have hs' : ownK l x (k + 1) = if l.getD k 0 = x then ownK l x k ++ [k] else ownK l x k := ownP_succ l x k
      have eg : l.getD k 0 = l[k] := by simp [List.getD, hil]
      rw [eg] at hs'
      obtain ⟨y, hy⟩ : ∃ y, y = l[k] := ⟨_, rfl⟩
      rw [← hy] at hs'
      have hok := hoK k
      obtain ⟨P, hP⟩ : ∃ P, P = ownK l x k := ⟨_, rfl⟩
      rw [← hP] at hh hs' hok
      have hb : ((P.length : Int) + 1) * 8 ≤ 140737488355328 := by omega
      have rl : (ri (pN P)).length = P.length := by rw [ri_len, pN_len]
      rcases hh with ⟨he, rfl, h⟩ | ⟨rfl, h⟩ <;> simp only [sls_cons, sls_one] at h
      · by_cases hyx : y = x
        · simp -dsimp [h, hil, hil', vInts, ← hy, hyx, At, hw1, hs', he, hBr, ri, pN]
        · simp -dsimp [h, hil, hil', vInts, ← hy, hyx, At, hw1, hs', he, hBr]
      · by_cases hyx : y = x
        · simp -dsimp [h, hil, hil', vInts, ← hy, hyx, At, hw1, hs', hb, rl, hBr]
          simp [ri, pN]
        · simp -dsimp [h, hil, hil', vInts, ← hy, hyx, At, hw1, hs', hBr]
    · have hil' : ¬ (k : Int) < l.length := by omega
      have e : k = l.length := by omega
      rw [e] at hh
      rcases hh with ⟨he, rfl, h⟩ | ⟨rfl, h⟩ <;> simp only [sls_cons, sls_one] at h
      · exact absurd he hne
      · simp -dsimp [h, hil', At]
  try clear h
  rintro ⟨sl, hp, bs⟩ ⟨rfl, h⟩
  simp only [sls_cons, sls_one, sls_nil] at h
  obtain ⟨P, hP⟩ : ∃ P, P = ownK l x l.length := ⟨_, rfl⟩
  have hPl : P.length ≤ l.length := by rw [hP]; exact hoK _
  have hPm : ∀ p ∈ P, p < l.length := fun p hp => by rw [hP] at hp; exact List.mem_range.1 (List.mem_filter.1 hp).1
  rw [← hP] at h
  rw [← hP]
  have rP : (ri (pN P)).length = P.length := by rw [ri_len, pN_len]
  have c1 := cloneI_own (pN P) P.length (by rw [pN_len]; exact Nat.le_refl _) (by omega)
  rw [pN_len, List.take_of_length_le (by rw [pN_len]; exact Nat.le_refl _)] at c1
  have c2 := mask_own (P ++ i.w) (fun p hp => by rcases List.mem_append.1 hp with hp | hp; exact Nat.lt_of_lt_of_le (hPm p hp) (by omega); exact Nat.lt_of_lt_of_le (hw p hp) (by omega)) (by simp; omega)
  have c3 := mask_view i.w (fun p hp => Nat.lt_of_lt_of_le (hw p hp) (by omega)) (by omega)
  have hapl : (pN P).length = P.length := pN_len P
  have hiw : (pN i.w).length = i.w.length := pN_len i.w
  have hbb : ((P.length : Int) + i.w.length) * 8 ≤ 140737488355328 := by omega
  have hln := mask_len (P ++ i.w)
  obtain ⟨M, hM⟩ : ∃ M, M = maskM (P ++ i.w) := ⟨_, rfl⟩
  rw [← hM] at c2 hln
  rw [show (P ++ i.w).length = P.length + i.w.length by simp] at c2
  have happ : ri (pN (P ++ i.w)) = ri (pN P) ++ ri (pN i.w) := by simp [ri, pN]
  rw [happ] at c2
  have hri : ri (pN i.w) = (pN i.w).map fun n => [V.i n] := rfl
  obtain ⟨RP, hRP⟩ : ∃ RP, RP = ri (pN P) := ⟨_, rfl⟩
  have hRPr : ∀ f, RP.map (fun r => V.renL f r) = RP := fun f => by rw [hRP]; exact ri_ren f _
  have hRWr : ∀ f, (ri (pN i.w)).map (fun r => V.renL f r) = ri (pN i.w) := fun f => ri_ren f _
  rw [← hRP] at c1 c2 rP
  rw [← hRP]
  refine vc_cut (At [(1, vInts l), (3, .ptr 0 1 0 0), (7, .own 2 1 0 P.length P.length), (9, .ptr 4 1 0 0)] [B, .res, .mem false [] RP, .res, .mem false [] [M.map V.q], .mem false [] (RP ++ ri (pN i.w))]) ?_ ?_
  · simp -dsimp [h, hB, hcl, vInts]
    refine gcalla c1 [2] (by simp -dsimp [h, addAll]) ⟨by simp, by simp, by simp, by simp⟩ (by simp -dsimp [h]) (by simp -dsimp [h, idx, List.idxOf_cons]) (by simp [sub, hRPr]) (by simp) ?_
    simp -dsimp [h, merge, place, back, hRPr, rP, hiw, hbb]
    refine gcalla c2 [5] (by simp -dsimp [h, addAll]) ⟨by simp, by simp, by simp, by simp⟩ (by simp -dsimp [h]) (by simp -dsimp [h, idx, List.idxOf_cons]) (by simp [sub, hRPr, hri]) (by simp) ?_
    have q1 : V.renL (back [5] 6) (M.map V.q) = M.map V.q := by
      clear c1 c2 c3 h
      generalize M = M
      induction M with
      | nil => rfl
      | cons a M ih => simp only [List.map_cons, V.renL, V.ren, ih]
    have q2 : ∀ f, RP.map (V.renL f) = RP := fun f => hRPr f
    have t1 : List.take 64 (M.map V.q) = M.map V.q := List.take_of_length_le (by simp; omega)
    simp -dsimp [h, merge, place, q1, hRPr, hln, At, hB, hcl, vInts, hri]
    rw [idsL_q]; rfl
  try clear h
  rintro ⟨sl, hp, bs⟩ ⟨rfl, h⟩
  simp only [sls_cons, sls_one, sls_nil] at h
  refine vc_cut (fun st => False) ?_ ?_
  · have hl4 : (l.length : Int) ≤ 4096 := by omega
    have t1 : List.take 64 (M.map V.q) = M.map V.q := List.take_of_length_le (by simp; omega)
    have q1 : V.renL (back [] 6) ((maskM i.w).map V.q) = (maskM i.w).map V.q := by
      clear c1 c2 c3 h
      generalize maskM i.w = N
      induction N with
      | nil => rfl
      | cons a N ih => simp only [List.map_cons, V.renL, V.ren, ih]
    simp -dsimp [h, vInts, hl4, hB, hcl, t1]
    refine ⟨by omega, ?_⟩
    refine gcalla c3 [] (by simp -dsimp [h, addAll, vInts]) ⟨by simp, by simp, by simp, by simp⟩ (by simp -dsimp [h]) (by simp -dsimp [h, vInts]) (by simp [sub]) (by simp) ?_
    rw [vcItsF_o, F_lt]
    have hlN := mask_len i.w
    refine ⟨(eqD_at (by rfl) (by simp -dsimp [h]) (by simp -dsimp [h, q1]) hln hlN).1, ?_⟩
    rw [(eqD_at (by rfl) (by simp -dsimp [h]) (by simp -dsimp [h, q1]) hln hlN).2]
    have hd : decide (M = maskM i.w) = decide (∀ p, p ∈ P → p ∈ i.w) := by
      rw [decide_eq_decide, hM, mask_eq (fun p hp => by rcases List.mem_append.1 hp with hp | hp; exact Nat.lt_of_lt_of_le (hPm p hp) (by omega); exact Nat.lt_of_lt_of_le (hw p hp) (by omega)) (fun p hp => Nat.lt_of_lt_of_le (hw p hp) (by omega))]
      constructor
      · intro hh p hp; exact (hh p).1 (List.mem_append_left _ hp)
      · intro hh p
        rw [List.mem_append]
        exact ⟨fun h => h.elim (hh p) id, .inr⟩
    rw [hd]
    simp -dsimp [h, hall_holds.rs]
  rintro st hf
  exact hf.elim
end Go.Abs.G


namespace Go.Abs.G
open Go.Proofs
set_option linter.unusedVariables false
set_option linter.unusedSimpArgs false

theorem own_in {s : List Dom} {l : List Int} {x a b : Int} (hx : x ∈ l) : (∀ p ∈ ownK l x l.length, p ∈ insB s l a b) ↔ a ≤ loB s x ∧ hiB s x ≤ b := by
  constructor
  · intro h
    obtain ⟨q, hq, hqx⟩ := List.getElem_of_mem hx
    have hm := h q (List.mem_filter.2 ⟨List.mem_range.2 hq, by simp [List.getD, hq, hqx]⟩)
    obtain ⟨_, h2, h3⟩ := insB_mem.1 hm
    rw [hqx] at h2 h3; exact ⟨h2, h3⟩
  · rintro ⟨h2, h3⟩ p hp
    obtain ⟨hp1, hp2⟩ := List.mem_filter.1 hp
    have hpl : p < l.length := List.mem_range.1 hp1
    have e : l[p] = x := by simpa [List.getD, hpl] using hp2
    exact insB_mem.2 ⟨hpl, by rw [e]; exact h2, by rw [e]; exact h3⟩
/-- Does an interval take the value of the variable? -/
def takes (l : List Int) (x v : Int) (i : Iv) : Bool := (decide (i.a ≤ v) && decide (v ≤ i.b)) && !decide (∀ p ∈ ownK l x l.length, p ∈ i.w)
theorem cuts1_spec (i : Iv) (l : List Int) (x v : Int) (hx : x ∈ l) (hl : l.length ≤ 1000) (hw : ∀ p ∈ i.w, p < l.length) (hwl : i.w.length ≤ 1000) :
    Pf Tryz.prog hall_Cuts_1.id [.agg i.cells, .ref [V.i v] 0, .ref [vInts l] 0, .ref [V.i x] 0] (.bool (takes l x v i)) := by
  refine DC.of hall_Cuts_1.ok (by simp) ?_
  unfold hall_Cuts_1.ir
  obtain ⟨B, hB⟩ : ∃ B, B = O.mem false [] [i.cells] := ⟨_, rfl⟩
  have hcl : i.cells = [V.i i.a, V.i i.b, vInts (pN i.w)] := rfl
  refine vc_cut (At [(1, .ref [V.i v] 0), (2, .ref [vInts l] 0), (3, .ref [V.i x] 0), (4, .ptr 0 1 0 0)] [B]) (by simp -dsimp [At, hB, hcl, vInts]) ?_
  try clear h
  rintro ⟨sl, hp, bs⟩ ⟨rfl, h⟩
  simp only [sls_cons, sls_one, sls_nil] at h
  have hh := has13_spec i.a i.b v
  have hd := holds13_spec i l x hx hl hw hwl
  rw [hcl] at hd
  by_cases h1 : i.a ≤ v
  · by_cases h2 : v ≤ i.b
    · simp -dsimp [h, hB, hcl]
      refine gcall (hh) (by simp -dsimp [h, h1, h2]) (by simp -dsimp [h, h1, h2]) ?_
      simp -dsimp [h, h1, h2]
      refine gcall (hd) (by simp -dsimp [h, hall_Cuts_1.rs, takes, h1, h2, vInts]) (by simp -dsimp [h, hall_Cuts_1.rs, takes, h1, h2, vInts]) ?_
      simp -dsimp [h, hall_Cuts_1.rs, takes, h1, h2, vInts]
    · simp -dsimp [h, hB, hcl]
      refine gcall (hh) (by simp -dsimp [h, h1, h2, hall_Cuts_1.rs, takes]) (by simp -dsimp [h, h1, h2, hall_Cuts_1.rs, takes]) ?_
      simp -dsimp [h, h1, h2, hall_Cuts_1.rs, takes]
  · simp -dsimp [h, hB, hcl]
    refine gcall (hh) (by simp -dsimp [h, h1, hall_Cuts_1.rs, takes]) (by simp -dsimp [h, h1, hall_Cuts_1.rs, takes]) ?_
    simp -dsimp [h, h1, hall_Cuts_1.rs, takes]

theorem gcallv {P : Program} {k : St → Prop} {st : St} {d : Option Nat} {f : FuncId} {fv : Operand} {xs : List Operand} {cs zs : List V} {r0 : V} (hf : st.ev fv = .fn (.func f) [] cs) (ok : okFunc P f = true) (hz : xs.map st.ev ++ cs = zs) (hi : V.idsL zs = []) (hc : Pf P f zs r0) (hk : k (st.put d r0)) : IvcF P (.callv d fv xs) k st := by
  show I.vc P (.callv d fv xs) k st
  simp only [I.vc, hf, List.nil_append, hz]
  exact ⟨ok, hi, DP.mono hc fun r hr => by subst hr; exact hk⟩

theorem index_iv {f : FuncId} {cap : List V} {p : Iv → Bool} {l : List Iv} (hok : okFunc Tryz.prog f = true) (hids : V.idsL cap = []) (hg : ∀ t ∈ l, Pf Tryz.prog f (.agg t.cells :: cap) (.bool (p t))) (hl : l.length ≤ 100000000) :
    Pf Tryz.prog slices_IndexFunc_Lhall_interval_hall_interval.id [.view 3 (l.map Iv.cells), .fn (.func f) [] cap] (V.i (firstAt p 0 l)) := by
  refine DC.of slices_IndexFunc_Lhall_interval_hall_interval.ok (by simp) ?_
  unfold slices_IndexFunc_Lhall_interval_hall_interval.ir
  obtain ⟨A, hA⟩ : ∃ A, A = V.view 3 (l.map Iv.cells) := ⟨_, rfl⟩
  rw [← hA]
  refine vc_cut (At [(0, A), (1, .fn (.func f) [] cap)] []) (by simp -dsimp [At]) ?_
  try clear h
  rintro ⟨sl, hp, bs⟩ ⟨rfl, h⟩
  simp only [sls_cons, sls_one, sls_nil] at h
  refine vc_cut (fun st => firstAt p 0 l = -1 ∧ st.hp = []) ?_ ?_
  · refine vc_cut (At [(0, A), (1, .fn (.func f) [] cap), (7, V.i l.length), (8, V.i 0)] []) (by simp -dsimp [h, At, hA]) ?_
    try clear h
    rintro ⟨sl, hp, bs⟩ ⟨rfl, h⟩
    simp only [sls_cons, sls_one, sls_nil] at h
    refine vc_block_of (vc_upto 0 (by simp) l.length (fun i st => firstAt p 0 l = firstAt p i (l.drop i) ∧ At [(0, A), (1, .fn (.func f) [] cap), (7, V.i l.length), (8, V.i i)] [] st) ⟨rfl, rfl, by simpa using h⟩ ?_)
    clear h
    rintro i ⟨sl, hp, bs⟩ hi ⟨he, rfl, h⟩
    simp only [sls_cons, sls_one] at h
    unfold slices_IndexFunc_Lhall_interval_hall_interval.b0
    by_cases hil : i < l.length
    · have hil' : (i : Int) < l.length := by omega
      have hw : IntKind.i64.wrap ((i : Int) + 1) = ((i + 1 : Nat) : Int) := by rw [wrap64] <;> omega
      rw [firstAt_drop p hil] at he
      obtain ⟨t, ht⟩ : ∃ t, t = l[i] := ⟨_, rfl⟩
      have hgt := hg t (by rw [ht]; exact List.getElem_mem _)
      have hids2 : V.idsL t.cells = [] := by simp [Iv.cells, vInts]
      rw [← ht] at he
      simp -dsimp [h, hil, hil', hA, ← ht, Iv.cells, vInts]
      refine gcallv (f := f) (cs := cap) (by simp -dsimp [h]) hok rfl ?_ (by simpa [Iv.cells, vInts] using hgt) ?_
      · simp -dsimp [hids]
      cases hp : p t
      · rw [hp] at he
        simp -dsimp [h, hil, hil', hA, At, hw]
        exact ⟨by simpa using he, by simp [hids]⟩
      · rw [hp] at he
        simp -dsimp [h, hil, hil', hA, slices_IndexFunc_Lhall_interval_hall_interval.rs]
        simpa using he.symm
    · have hil' : ¬ (i : Int) < l.length := by omega
      have e : l.drop i = [] := List.drop_eq_nil_of_le (by omega)
      rw [e] at he
      simp -dsimp [h, hil']
      exact he
  · rintro ⟨sl, hp, bs⟩ ⟨he, rfl⟩
    simp -dsimp [slices_IndexFunc_Lhall_interval_hall_interval.rs, he]
end Go.Abs.G


namespace Go.Abs.G
open Go.Proofs
set_option linter.unusedVariables false
set_option linter.unusedSimpArgs false

theorem IvOk.lt {s : List Dom} {l : List Int} {L : List Iv} (h : IvOk s l L) {i : Iv} (hi : i ∈ L) : (∀ p ∈ i.w, p < l.length) ∧ i.w.length ≤ l.length := by
  obtain ⟨_, hw, _⟩ := h.mem i hi
  rw [hw]
  exact ⟨fun p hp => (insB_mem.1 hp).1, Nat.le_trans (List.length_filter_le _ _) (by simp)⟩
theorem fails_spec {s : List Dom} {ms : List (List Dom)} (hs : Two s ms) (xs : List Int) (hx : xs.length ≤ 1000) :
    DC Tryz.prog hall_Fails.id [vInts xs, .ptr 0 1 0 0] [ST s ms] (fun r H => (∃ L, IvOk s (placesB s xs) L ∧ ((∃ i ∈ L, i.over ∧ r = .tup [.agg (hallV i (placesB s xs)), .bool true]) ∨ ¬ overB L ∧ r = .tup [.agg [V.i 0, V.i 0, nilS], .bool false])) ∧ H = [ST s ms]) := by
  refine DC.trim (Q := fun r H => (∃ L, IvOk s (placesB s xs) L ∧ ((∃ i ∈ L, i.over ∧ r = .tup [.agg (hallV i (placesB s xs)), .bool true]) ∨ ¬ overB L ∧ r = .tup [.agg [V.i 0, V.i 0, nilS], .bool false])) ∧ ∃ E, H = ST s ms :: E) ?_ ?_
  rotate_left
  · rintro r H ⟨⟨L, hL, hr⟩, E, rfl⟩
    refine ⟨1, by simp, ?_, ⟨L, hL, hr⟩, by simp⟩
    rcases hr with ⟨i, _, _, rfl⟩ | ⟨_, rfl⟩ <;> simp [V.ids, V.idsL, hallV, vInts]
  refine DC.of hall_Fails.ok (by simp) ?_
  unfold hall_Fails.ir
  obtain ⟨R, hR⟩ : ∃ R, R = O.mem false [] [[V.i 0, V.i 0, nilS]] := ⟨_, rfl⟩
  have hRr : R.refs = [] := by rw [hR]; rfl
  obtain ⟨l, hl⟩ : ∃ l, l = placesB s xs := ⟨_, rfl⟩
  have hll : l.length ≤ 1000 := by rw [hl]; exact Nat.le_trans (List.length_filter_le _ _) hx
  have hp := places_spec hs xs (by omega)
  rw [← hl] at hp ⊢
  refine vc_cut (At [(0, vInts xs), (1, .ptr 0 1 0 0), (4, .ptr 1 1 0 0)] [ST s ms, R]) (by simp -dsimp [At, hR]) ?_
  try clear h
  rintro ⟨sl, hp, bs⟩ ⟨rfl, h⟩
  simp only [sls_cons, sls_one, sls_nil] at h
  refine vc_cut (At [(1, .ptr 0 1 0 0), (4, .ptr 1 1 0 0), (6, vInts l)] [ST s ms, R]) ?_ ?_
  · simp -dsimp [h]
    refine gcallm1 hp 0 (by simp -dsimp [h, addAll, vInts]) (by simp -dsimp [h]) (by simp) (by simp) (by simp) (by simp -dsimp [h, idx, vInts]) (by simp) ?_
    simp -dsimp [h, At]
  try clear h
  rintro ⟨sl, hp, bs⟩ ⟨rfl, h⟩
  simp only [sls_cons, sls_one, sls_nil] at h
  refine vc_cut (fun st => ∃ L, IvOk s l L ∧ ¬ overB L ∧ At [(4, .ptr 1 1 0 0)] [ST s ms, R] st) ?_ ?_
  · refine vc_cut (fun st => ∃ L, IvOk s l L ∧ At [(4, .ptr 1 1 0 0), (6, vInts l), (14, .view 3 (L.map Iv.cells)), (15, V.i L.length), (16, V.i 0)] [ST s ms, R] st) ?_ ?_
    · simp -dsimp [h]
      refine gcallm_gen (intervals_spec hs l hll) [0] (by simp -dsimp [h, addAll, vInts]) ⟨by simp, by simp, by simp, by simp⟩ (by simp -dsimp [h, idx, List.idxOf_cons, vInts]) (by simp [sub]) (by simp) ?_
      rintro r H ⟨⟨L, hL, rfl⟩, rfl⟩
      simp -dsimp [h, merge, place, At]
      exact ⟨L, hL, rfl, rfl⟩
    clear h
    rintro ⟨sl, hp, bs⟩ ⟨L, hL, rfl, h⟩; simp only [sls_cons, sls_one] at h
    obtain ⟨A, hA⟩ : ∃ A, A = V.view 3 (L.map Iv.cells) := ⟨_, rfl⟩
    rw [← hA] at h
    refine vc_block_of (vc_upto 2 (by simp) L.length (fun i st => (∀ j (hj : j < L.length), j < i → ¬ (L[j]).over) ∧ At [(4, .ptr 1 1 0 0), (6, vInts l), (14, A), (15, V.i L.length), (16, V.i i)] [ST s ms, R] st) ⟨(fun j hj h => by omega), rfl, by simpa using h⟩ ?_)
    clear h
    rintro i ⟨sl, hp, bs⟩ hi ⟨ho, rfl, h⟩
    simp only [sls_cons, sls_one] at h
    unfold hall_Fails.b0
    by_cases hil : i < L.length
    · have hil' : (i : Int) < L.length := by omega
      have hw : IntKind.i64.wrap ((i : Int) + 1) = ((i + 1 : Nat) : Int) := by have := hL.n; rw [wrap64] <;> omega
      obtain ⟨t, ht⟩ : ∃ t, t = L[i] := ⟨_, rfl⟩
      have htm : t ∈ L := by rw [ht]; exact List.getElem_mem _
      obtain ⟨m1, m2, m3, m4⟩ := hL.mem t htm
      obtain ⟨k1, k2⟩ := hL.lt htm
      have hsz := size13_spec t.a t.b (by omega) (by omega) m1
      have hcl : t.cells = [V.i t.a, V.i t.b, vInts (pN t.w)] := rfl
      have hsp := hall_spec t l k1 (by omega)
      rw [hcl] at hsp
      have hpl := pN_len t.w
      by_cases hov : t.b - t.a + 1 < t.w.length
      · simp -dsimp [h, hil, hil', hA, ← ht, hcl, vInts]
        refine gcall (hsz) (by simp -dsimp [h, hpl, hov, vInts]) (by simp -dsimp [h, hpl, hov, vInts]) ?_
        simp -dsimp [h, hpl, hov, vInts]
        refine gcall (hsp) (by simp -dsimp [h, hR, hallV, vInts, hall_Fails.rs]) (by simp -dsimp [h, hR, hallV, vInts, hall_Fails.rs]) ?_
        simp -dsimp [h, hR, hallV, vInts, hall_Fails.rs]
        exact ⟨L, hL, t, htm, by unfold Iv.over; omega, rfl, rfl, rfl⟩
      · simp -dsimp [h, hil, hil', hA, ← ht, hcl, vInts]
        refine gcall (hsz) (by simp -dsimp [h, hpl, hov, vInts, At, hw, hil, hRr]) (by simp -dsimp [h, hpl, hov, vInts, At, hw, hil, hRr]) ?_
        simp -dsimp [h, hpl, hov, vInts, At, hw, hil, hRr]
        refine ⟨fun j hj hji => ?_, hA.symm⟩
        by_cases hje : j = i
        · subst hje; rw [← ht]; unfold Iv.over; omega
        · exact ho j hj (by omega)
    · have hil' : ¬ (i : Int) < L.length := by omega
      simp -dsimp [h, hil', At]
      exact ⟨L, hL, fun ⟨t, ht, hto⟩ => by
        obtain ⟨j, hj, rfl⟩ := List.getElem_of_mem ht
        exact ho j hj (by omega) hto⟩
  rintro ⟨sl, hp, bs⟩ ⟨L, hL, ho, rfl, h⟩; simp only [sls_one] at h
  simp -dsimp [h, hR, hall_Fails.rs]
  exact ⟨L, hL, ho⟩
end Go.Abs.G


namespace Go.Abs.G
open Go.Proofs
set_option linter.unusedVariables false
set_option linter.unusedSimpArgs false

end Go.Abs.G


namespace Go.Abs.G
open Go.Proofs
set_option linter.unusedVariables false
set_option linter.unusedSimpArgs false

/-- A cause, as Cuts tells it. -/
structure Cs where
  x : Int
  v : Int
  fr : Int
  to : Int
  xs : List Int
def Cs.cells (c : Cs) : List V := [V.i 0, V.i 3, V.i c.x, V.i c.v, V.i c.fr, V.i c.to, vInts c.xs]
def goesC' (C : List Cs) (x v : Int) : Bool := C.any fun c => decide (c.x = x) && decide (c.v = v)

theorem goes13_spec (C : List Cs) (x v : Int) (hC : C.length ≤ 1000000000) : Pf Tryz.prog hallmarklaw13_goes.id [.view 7 (C.map Cs.cells), V.i x, V.i v] (.bool (goesC' C x v)) := by
  refine DC.of hallmarklaw13_goes.ok (by simp) ?_
  unfold hallmarklaw13_goes.ir
  obtain ⟨A, hA⟩ : ∃ A, A = V.view 7 (C.map Cs.cells) := ⟨_, rfl⟩
  rw [← hA]
  refine vc_cut (At [(0, A), (1, V.i x), (2, V.i v)] []) (by simp -dsimp [At]) ?_
  try clear h
  rintro ⟨sl, hp, bs⟩ ⟨rfl, h⟩
  simp only [sls_cons, sls_one, sls_nil] at h
  refine vc_cut (fun st => goesC' C x v = false ∧ st.hp = []) ?_ ?_
  · refine vc_cut (At [(0, A), (1, V.i x), (2, V.i v), (7, V.i 0)] []) (by simp -dsimp [h, At]) ?_
    try clear h
    rintro ⟨sl, hp, bs⟩ ⟨rfl, h⟩
    simp only [sls_cons, sls_one, sls_nil] at h
    refine vc_block_of (vc_upto 0 (by simp) C.length (fun i st => goesC' (C.take i) x v = false ∧ At [(0, A), (1, V.i x), (2, V.i v), (7, V.i i)] [] st) ⟨rfl, rfl, by simpa using h⟩ ?_)
    clear h
    rintro i ⟨sl, hp, bs⟩ hi ⟨hf, rfl, h⟩
    simp only [sls_cons, sls_one] at h
    unfold hallmarklaw13_goes.b0
    by_cases hil : i < C.length
    · have hil' : (i : Int) < C.length := by omega
      have hw : IntKind.i64.wrap ((i : Int) + 1) = ((i + 1 : Nat) : Int) := by rw [wrap64] <;> omega
      obtain ⟨c, hc⟩ : ∃ c, c = C[i] := ⟨_, rfl⟩
      have hcm : c ∈ C := by rw [hc]; exact List.getElem_mem _
      have htk : goesC' (C.take (i + 1)) x v = (decide (c.x = x) && decide (c.v = v)) := by
        unfold goesC' at hf ⊢
        rw [List.take_succ_eq_append_getElem hil, List.any_append, hf, ← hc]; simp
      by_cases h1 : c.x = x
      · by_cases h2 : c.v = v
        · have hg : goesC' C x v = true := List.any_eq_true.2 ⟨c, hcm, by simp [h1, h2]⟩
          simp -dsimp [h, hil, hil', hA, ← hc, Cs.cells, h1, h2, isK, eqK, hallmarklaw13_goes.rs, hg]
        · simp -dsimp [h, hil, hil', hA, ← hc, Cs.cells, h1, h2, isK, eqK, At, hw, htk]
      · simp -dsimp [h, hil, hil', hA, ← hc, Cs.cells, h1, isK, eqK, At, hw, htk]
    · have hil' : ¬ (i : Int) < C.length := by omega
      have e : C.take i = C := List.take_of_length_le (by omega)
      rw [e] at hf
      simp -dsimp [h, hil', hA, hf]
  · rintro ⟨sl, hp, bs⟩ ⟨he, rfl⟩
    simp -dsimp [hallmarklaw13_goes.rs, he]
end Go.Abs.G


namespace Go.Abs.G
open Go.Proofs
set_option linter.unusedVariables false
set_option linter.unusedSimpArgs false

def okCut (c : DCut) : Prop := I64 c.k ∧ I64 c.x ∧ I64 c.v
def zCuts (l : List DCut) : Prop := l.length ≤ maxLen ∧ l.length ≤ maxS ∧ ∀ c ∈ l, okCut c
structure CTypes (P : Program) (tInt tCut tCuts : TypeId) : Prop where
  bytes : 8 ≤ P.bytesOf tCut
  int : P.underlying tInt = some (.int .i64) ∧ P.cellsOf tInt = 1
  cut : ∃ fs, P.underlying tCut = some (.struct fs) ∧ P.cellsOf tCut = 3 ∧ fs.toList.map (fun f => (f.type, f.offset)) = [(tInt, 0), (tInt, 1), (tInt, 2)]
  cuts : P.underlying tCuts = some (.slice tCut) ∧ P.cellsOf tCuts = 1
theorem rdI {P : Program} {t : TypeId} (h : P.underlying t = some (.int .i64) ∧ P.cellsOf t = 1) : Rd P t 1 (fun n : Int => [V.i n]) I64 :=
  (Rd.int h.1 h.2).map fun n h => ⟨n, by
    have : (decide (IntKind.i64.min ≤ n) && decide (n ≤ IntKind.i64.max)) = true := h
    simp only [Bool.and_eq_true, decide_eq_true_eq] at this
    exact ⟨this.1, this.2⟩, rfl⟩
theorem rdCut {P : Program} {tInt tCut : TypeId} (hi : P.underlying tInt = some (.int .i64) ∧ P.cellsOf tInt = 1)
    (hc : ∃ fs, P.underlying tCut = some (.struct fs) ∧ P.cellsOf tCut = 3 ∧ fs.toList.map (fun f => (f.type, f.offset)) = [(tInt, 0), (tInt, 1), (tInt, 2)]) : Rd P tCut 3 DCut.cells okCut := by
  obtain ⟨fs, h1, h2, h3⟩ := hc
  refine (Rd.struct h1 h2 (RdF.of_map (fs := [fl tInt 0, fl tInt 1, fl tInt 2]) (.cons rfl (rdI hi) (.cons rfl (rdI hi) (.cons rfl (rdI hi) .nil))) h3)).map fun x h => ?_
  exact ⟨⟨x.1, x.2.1, x.2.2.1⟩, ⟨h.1, h.2.1, h.2.2.1⟩, rfl⟩
theorem CTypes.rdCuts {P : Program} {tInt tCut tCuts : TypeId} (M : CTypes P tInt tCut tCuts) : Rd P tCuts 1 (fun l : List DCut => [vCuts l]) zCuts :=
  (Rd.slice M.cuts.1 M.cuts.2 (by omega) (rdCut M.int M.cut)).map fun l h => ⟨l, ⟨h.1, maxS_of h.2.1 M.bytes, h.2.2⟩, rfl⟩
end Go.Abs.G


namespace Go.Abs.G
open Go.Proofs
set_option linter.unusedVariables false
set_option linter.unusedSimpArgs false

end Go.Abs.G


namespace Go.Abs.G
open Go.Proofs
set_option linter.unusedVariables false
set_option linter.unusedSimpArgs false

def cutAll (s : List Dom) (l : List DCut) : List Dom := l.foldl (fun s c => (cutS s c.k c.x c.v).1) s
theorem cutAll_two {s : List Dom} {ms : List (List Dom)} (h : Two s ms) (l : List DCut) : Two (cutAll s l) ms := by
  induction l generalizing s with
  | nil => exact h
  | cons c l ih => exact ih (h.cut _ _ _)
theorem cutAll_take (s : List Dom) (l : List DCut) {i : Nat} (hi : i < l.length) : cutAll s (l.take (i + 1)) = (cutS (cutAll s (l.take i)) l[i].k l[i].x l[i].v).1 := by
  unfold cutAll; rw [List.take_succ_eq_append_getElem hi, List.foldl_append]; rfl
end Go.Abs.G


namespace Go.Abs.G
open Go.Proofs
set_option linter.unusedVariables false
set_option linter.unusedSimpArgs false

theorem behind13_spec (m : Model) (l : List DCut) (hm : zModel m) (hl : l.length ≤ maxLen) : DC Tryz.prog hallmarklaw13_behind.id [.agg m.cells, vCuts l] [] (fun r H => r = .ptr 0 1 0 0 ∧ H = [ST (cutAll (domsOf m) l) []]) := by
  refine DC.picks (Q := fun r H => r = .ptr 1 1 0 0 ∧ ∃ B, H = [B, ST (cutAll (domsOf m) l) []]) ?_ ?_
  rotate_left
  · rintro r H ⟨rfl, B, rfl⟩
    exact ⟨[1], ⟨by simp, by simp, by simp, by simp⟩, by simp, by simp [V.ids], rfl, by simp [sub]⟩
  have hM : (maxLen : Int) ≤ 9223372036854775807 := by decide
  refine DC.of hallmarklaw13_behind.ok (by simp) ?_
  unfold hallmarklaw13_behind.ir
  obtain ⟨B, hB⟩ : ∃ B, B = O.mem false [] [m.cells] := ⟨_, rfl⟩
  have hBr : B.refs = [] := by rw [hB]; rfl
  refine vc_cut (At [(1, vCuts l), (2, .ptr 0 1 0 0)] [B]) (by simp -dsimp [At, hB, Model.cells, vVars, vCons, vTerms]) ?_
  try clear h
  rintro ⟨sl, hp, bs⟩ ⟨rfl, h⟩
  simp only [sls_cons, sls_one, sls_nil] at h
  refine vc_cut (At [(1, vCuts l), (5, .ptr 1 1 0 0)] [B, ST (domsOf m) []]) ?_ ?_
  · simp -dsimp [h, hB, Model.cells, vVars, vCons, vTerms]
    refine gcallo (newT m hm.1) (by simp -dsimp [h, Model.cells, vVars, vCons, vTerms]) (by simp [Model.cells, vVars, vCons, vTerms]) (by simp) ?_
    simp -dsimp [h, At, hB, Model.cells, vVars, vCons, vTerms]
  try clear h
  rintro ⟨sl, hp, bs⟩ ⟨rfl, h⟩
  simp only [sls_cons, sls_one, sls_nil] at h
  refine vc_cut (At [(5, .ptr 1 1 0 0)] [B, ST (cutAll (domsOf m) l) []]) ?_ ?_
  · refine vc_cut (At [(1, vCuts l), (5, .ptr 1 1 0 0), (6, V.i 0)] [B, ST (domsOf m) []]) (by simp -dsimp [h, At]) ?_
    try clear h
    rintro ⟨sl, hp, bs⟩ ⟨rfl, h⟩
    simp only [sls_cons, sls_one, sls_nil] at h
    refine vc_block_of (vc_upto 2 (by simp) l.length (fun i st => At [(1, vCuts l), (5, .ptr 1 1 0 0), (6, V.i i)] [B, ST (cutAll (domsOf m) (l.take i)) []] st) ⟨rfl, by simpa using h⟩ ?_)
    clear h
    rintro i ⟨sl, hp, bs⟩ hi ⟨rfl, h⟩
    simp only [sls_cons, sls_one] at h
    unfold hallmarklaw13_behind.b0
    have ht : Two (cutAll (domsOf m) (l.take i)) [] := cutAll_two (Two.new m) _
    by_cases hil : i < l.length
    · have hw : IntKind.i64.wrap ((i : Int) + 1) = ((i + 1 : Nat) : Int) := by rw [wrap64] <;> omega
      have hc := cutAll_take (domsOf m) l hil
      obtain ⟨c, hcc⟩ : ∃ c, c = l[i] := ⟨_, rfl⟩
      rw [← hcc] at hc
      obtain ⟨s, hs⟩ : ∃ s, s = cutAll (domsOf m) (l.take i) := ⟨_, rfl⟩
      rw [← hs] at ht hc
      rw [← hs]
      simp -dsimp [h, hil, vCuts, ← hcc, DCut.cells]
      refine gcallm1 (cutT ht c.k c.x c.v) 1 (by simp -dsimp [h, addAll]) (by simp -dsimp [h]) (by simp) (by simp) (by simp) (by simp -dsimp [h, idx]) (by simp) ?_
      simp -dsimp [h, hil, hw, At, hc, hBr]
      rfl
    · have hil' : i = l.length := by omega
      subst hil'
      simp -dsimp [h, At, vCuts]
  try clear h
  rintro ⟨sl, hp, bs⟩ ⟨rfl, h⟩
  simp only [sls_cons, sls_one, sls_nil] at h
  simp -dsimp [h, hallmarklaw13_behind.rs]

def hallCells (fr to : Int) (xs : List Int) : List V := [V.i fr, V.i to, vInts xs]
end Go.Abs.G


namespace Go.Abs.G
open Go.Proofs
set_option linter.unusedVariables false
set_option linter.unusedSimpArgs false

end Go.Abs.G


/- A nil slice in a slot, as a slice of one's own without elements. -/
namespace Go.Abs
set_option linter.unusedVariables false
theorem Weak.ownnil (t es : Nat) {st : St} (ht : gt st.sl t = .a (.slice none 0 0)) : Weak st { st with sl := up st.sl t (.own st.hp.length es 0 0 0), hp := st.hp ++ [.mem false [] []] } := by
  refine ⟨rfl, fun k hk => ?_, by simp, fun w β F N a hR => ?_⟩
  · show (st.hp ++ _)[k]? = _
    rw [List.getElem?_append_left (lt_of_get hk)]; exact hk
  · have a1 := adv_res (F := F) hR.hok 1
    have hg : (st.hp ++ List.replicate 1 O.res)[st.hp.length]? = some O.res := by simp
    have a2 := new_nil (es := es) (refs := []) (F := F) a1.hok hg
    have e : (st.hp ++ List.replicate 1 O.res).set st.hp.length (.mem false [] []) = st.hp ++ [.mem false [] []] := by
      rw [List.set_append, if_neg (by omega), Nat.sub_self]; rfl
    have a3 := nil_own (es := es) (refs := []) (ad := none) (hp := w.heap) (F := F) (β := β) hg
    rw [e] at a2 a3
    have adv := a1.trans a2
    refine ⟨_, adv, ?_⟩
    have hR2 : Rel w _ F N { st with hp := st.hp ++ [.mem false [] []] } a := hR.adv adv
    have hx := hR.sl t
    rw [ht] at hx
    refine hR2.slot ?_
    rw [hx.of_a]; exact a3
end Go.Abs

namespace Go.Abs.G
open Go.Proofs
set_option linter.unusedVariables false
set_option linter.unusedSimpArgs false

theorem firstAt_find {α : Type} (p : α → Bool) : ∀ (l : List α) (i : Nat), (firstAt p i l = -1 ∧ l.find? p = none) ∨ ∃ (k : Nat) (x : α), firstAt p i l = ((i + k : Nat) : Int) ∧ l.find? p = some x ∧ l[k]? = some x
  | [], i => .inl ⟨rfl, rfl⟩
  | x :: l, i => by
    by_cases hp : p x = true
    · exact .inr ⟨0, x, by simp [firstAt, hp], by simp [hp], rfl⟩
    · rcases firstAt_find p l (i + 1) with ⟨h1, h2⟩ | ⟨k, y, h1, h2, h3⟩
      · exact .inl ⟨by simp [firstAt, hp, h1], by simp [hp, h2]⟩
      · exact .inr ⟨k + 1, y, by simp only [firstAt, hp, h1]; simp; omega, by simp [hp, h2], by simpa using h3⟩

def mkC (F : List Iv) (l : List Int) (x v : Int) : Option Cs := (F.find? (takes l x v)).map fun i => ⟨x, v, i.a, i.b, hallX i l⟩
def toldC (F : List Iv) (s : List Dom) (l u : List Int) : List Cs := u.flatMap fun x => (valsB s x).filterMap (mkC F l x)
def Iv.fullB (i : Iv) : Bool := decide ((i.w.length : Int) = i.b - i.a + 1)
def fulls (L : List Iv) : List Iv := L.filter Iv.fullB
theorem toldC_succ (F : List Iv) (s : List Dom) (l u : List Int) {j : Nat} (h : j < u.length) : toldC F s l (u.take (j + 1)) = toldC F s l (u.take j) ++ (valsB s u[j]).filterMap (mkC F l u[j]) := by
  unfold toldC; rw [List.take_succ_eq_append_getElem h, List.flatMap_append]; simp
theorem fm_succ {α β : Type} (f : α → Option β) (l : List α) {k : Nat} (h : k < l.length) : (l.take (k + 1)).filterMap f = (l.take k).filterMap f ++ (match f l[k] with | none => [] | some y => [y]) := by
  rw [List.take_succ_eq_append_getElem h, List.filterMap_append]
  rfl

section
variable {s : List Dom} {ms : List (List Dom)} (hs : Two s ms) {l : List Int} (hll : l.length ≤ 1000) {F : List Iv} (hF : ∀ i ∈ F, (∀ p ∈ i.w, p < l.length) ∧ i.w.length ≤ l.length) (hFl : F.length ≤ 1000000)
include hll hF hFl
/-- The loop over one variable's values. -/
theorem cuts_b2 {u : List Int} {m j n : Nat} {x : Int} (hx : x ∈ l) {vs : List Int} (hvs : vs.length ≤ 64) {C0 : List Cs} (hC0 : C0.length ≤ 1000000) {Fz : O} (hFz : Fz.refs = []) {Q : Ex → St → Prop} {st : St}
    (hst : At [(1, .ptr 0 1 0 0), (6, .ptr 1 1 0 0), (7, .view 3 (F.map Iv.cells)), (11, .own 3 7 0 C0.length C0.length), (13, .ptr 5 1 0 0), (50, .own 4 1 0 m n), (51, V.i m), (52, V.i j), (58, vInts vs), (59, V.i vs.length), (60, V.i 0)]
      [ST s ms, .mem false [] [[vInts l]], Fz, .mem false [] (C0.map Cs.cells), .mem false [] (ri u), .mem false [] [[V.i x]]] st)
    (hQ : ∀ st' : St, At [(1, .ptr 0 1 0 0), (6, .ptr 1 1 0 0), (7, .view 3 (F.map Iv.cells)), (11, .own 3 7 0 (C0 ++ vs.filterMap (mkC F l x)).length (C0 ++ vs.filterMap (mkC F l x)).length), (50, .own 4 1 0 m n), (51, V.i m), (52, V.i j)]
      [ST s ms, .mem false [] [[vInts l]], Fz, .mem false [] ((C0 ++ vs.filterMap (mkC F l x)).map Cs.cells), .mem false [] (ri u), .mem false [] [[V.i x]]] st' → Q (.exit 5) st') :
    vc Tryz.prog (.loop hall_Cuts.b2) Q st := by
  obtain ⟨hh, h⟩ := hst
  obtain ⟨A, hA⟩ : ∃ A, A = V.view 3 (F.map Iv.cells) := ⟨_, rfl⟩
  obtain ⟨P, hP⟩ : ∃ P, P = O.mem false [] [[vInts l]] := ⟨_, rfl⟩
  have hPr : P.refs = [] := by rw [hP]; rfl
  have hPm : P.isMem = true := by rw [hP]; rfl
  have hPw : P.rows = [[vInts l]] := by rw [hP]; rfl
  have hPl : True := trivial
  have hAz : ∀ H, V.fz H A = A := fun H => by rw [hA]; rfl
  have hAp : ∀ H, V.fzP H A := fun H => by rw [hA]; trivial
  have hAi : A.ids = [] := by rw [hA]; rfl
  have hix : ∀ v, Pf Tryz.prog slices_IndexFunc_Lhall_interval_hall_interval.id [A, .fn (.func hall_Cuts_1.id) [] [.ref [V.i v] 0, .ref [vInts l] 0, .ref [V.i x] 0]] (V.i (firstAt (takes l x v) 0 F)) := fun v => by
    rw [hA]
    exact index_iv (by simp) (by simp [V.idsL, vInts]) (fun t ht => cuts1_spec t l x v hx hll (hF t ht).1 (Nat.le_trans (hF t ht).2 hll)) (by omega)
  rw [← hA] at h hQ
  rw [← hP] at hh hQ
  refine vc_upto 6 (by rw [hh]; simp) vs.length (fun k st => ∃ C, C = C0 ++ (vs.take k).filterMap (mkC F l x) ∧ At [(1, .ptr 0 1 0 0), (6, .ptr 1 1 0 0), (7, A), (11, .own 3 7 0 C.length C.length), (13, .ptr 5 1 0 0), (50, .own 4 1 0 m n), (51, V.i m), (52, V.i j), (58, vInts vs), (59, V.i vs.length), (60, V.i k)]
      [ST s ms, P, Fz, .mem false [] (C.map Cs.cells), .mem false [] (ri u), .mem false [] [[V.i x]]] st) ⟨C0, by simp, hh, h⟩ ?_
  clear hh h
  rintro k ⟨sl, hp, bs⟩ hk ⟨C, hC, rfl, h⟩
  simp only [sls_cons, sls_one] at h
  unfold hall_Cuts.b2
  by_cases hil : k < vs.length
  · have hil' : (k : Int) < vs.length := by omega
    have hw : IntKind.i64.wrap ((k : Int) + 1) = ((k + 1 : Nat) : Int) := by rw [wrap64] <;> omega
    have hsu := fm_succ (mkC F l x) vs hil
    obtain ⟨v, hv⟩ : ∃ v, v = vs[k] := ⟨_, rfl⟩
    rw [← hv] at hsu
    have hCl : C.length ≤ C0.length + 64 := by
      rw [hC, List.length_append]
      have := List.length_filterMap_le (mkC F l x) (vs.take k)
      have := List.length_take_le k vs
      omega
    have hb : ((C.length : Int) + 1) * 72 ≤ 140737488355328 := by omega
    rcases firstAt_find (takes l x v) F 0 with ⟨g1, g2⟩ | ⟨q, i, g1, g2, g3⟩
    · have hm : mkC F l x v = none := by simp [mkC, g2]
      simp -dsimp [h, hil, hil', vInts, ← hv]
      refine gcallb (hix v) (by simp -dsimp [h, V.fzL, V.fz, hPw, vInts, hAz]) (by simp -dsimp [h, V.fzPL, V.fzP, hPm, hPw, hPr, hAp]) (by simp) rfl ?_
      simp -dsimp [h, g1, At, hw, hPr, hFz, hAi, hil, vInts]
      simp [hC, hsu, hm]
    · rw [Nat.zero_add] at g1
      have hm : mkC F l x v = some ⟨x, v, i.a, i.b, hallX i l⟩ := by simp [mkC, g2]
      have hqF : q < F.length := (List.getElem?_eq_some_iff.1 g3).1
      have hqF' : (q : Int) < F.length := by omega
      have hFq : ∀ hh, F[q]'hh = i := fun hh => (List.getElem?_eq_some_iff.1 g3).2
      have him : i ∈ F := List.mem_of_getElem? g3
      have hsp := hall_spec i l (hF i him).1 (by have := (hF i him).2; omega)
      have hcl : i.cells = [V.i i.a, V.i i.b, vInts (pN i.w)] := rfl
      rw [hcl] at hsp
      simp -dsimp [h, hil, hil', vInts, ← hv]
      refine gcallb (hix v) (by simp -dsimp [h, V.fzL, V.fz, hPw, vInts, hAz]) (by simp -dsimp [h, V.fzPL, V.fzP, hPm, hPw, hPr, hAp]) (by simp) rfl ?_
      simp -dsimp [h, g1, hA, hqF, hqF', hFq, hcl, hP, vInts]
      refine gcall (hsp) (by simp -dsimp [h, At, hw, hil, hallV, vInts, hb, hPr, hFz, hAi]) (by simp -dsimp [h, At, hw, hil, hallV, vInts, hb, hPr, hFz, hAi]) ?_
      simp -dsimp [h, At, hw, hil, hallV, vInts, hb, hPr, hFz, hAi]
      refine ⟨⟨hP.symm, ?_⟩, ?_⟩ <;> simp [hC, hsu, hm, Cs.cells, vInts, hA]
      omega
  · have hil' : ¬ (k : Int) < vs.length := by omega
    have e : vs.take k = vs := List.take_of_length_le (by omega)
    rw [e] at hC
    subst hC
    simp -dsimp [h, hil', vInts]
    refine hQ _ ?_
    simp -dsimp [h, At, hA, hP]

include hs
/-- The loop over the variables. -/
theorem cuts_b1 {u : List Int} {m n : Nat} (hm : m ≤ n) (hn : u.length = n) (hn2 : n ≤ 1000) (hu : ∀ x ∈ u.take m, x ∈ l) {Fz : O} (hFz : Fz.refs = []) {Q : Ex → St → Prop} {st : St}
    (hst : At [(1, .ptr 0 1 0 0), (6, .ptr 1 1 0 0), (7, .view 3 (F.map Iv.cells)), (11, .own 3 7 0 0 0), (50, .own 4 1 0 m n), (51, V.i m), (52, V.i 0)]
      [ST s ms, .mem false [] [[vInts l]], Fz, .mem false [] [], .mem false [] (ri u)] st)
    (hQ : ∀ st' : St, At [(11, .own 3 7 0 (toldC F s l (u.take m)).length (toldC F s l (u.take m)).length)]
      [ST s ms, .mem false [] [[vInts l]], Fz, .mem false [] ((toldC F s l (u.take m)).map Cs.cells), .mem false [] (ri u)] st' → Q (.exit 3) st') :
    vc Tryz.prog (.loop hall_Cuts.b1) Q st := by
  obtain ⟨hh, h⟩ := hst
  obtain ⟨A, hA⟩ : ∃ A, A = V.view 3 (F.map Iv.cells) := ⟨_, rfl⟩
  obtain ⟨P, hP⟩ : ∃ P, P = O.mem false [] [[vInts l]] := ⟨_, rfl⟩
  have hPr : P.refs = [] := by rw [hP]; rfl
  have hAi : A.ids = [] := by rw [hA]; rfl
  have ru : (ri u).length = n := by rw [ri_len]; exact hn
  have hCl : ∀ j, j ≤ m → (toldC F s l (u.take j)).length ≤ 64 * j := by
    intro j
    induction j with
    | zero => intro _; simp [toldC]
    | succ j ih =>
      intro hj
      have := ih (by omega)
      rw [toldC_succ F s l u (by omega), List.length_append]
      have := List.length_filterMap_le (mkC F l u[j]) (valsB s u[j])
      have := valsB_small hs.d u[j]
      omega
  rw [← hA] at h
  rw [← hP] at hh
  refine vc_upto 5 (by rw [hh]; simp) m (fun j st => ∃ C, C = toldC F s l (u.take j) ∧ At [(1, .ptr 0 1 0 0), (6, .ptr 1 1 0 0), (7, A), (11, .own 3 7 0 C.length C.length), (50, .own 4 1 0 m n), (51, V.i m), (52, V.i j)]
      [ST s ms, P, Fz, .mem false [] (C.map Cs.cells), .mem false [] (ri u)] st) ⟨[], by simp [toldC], hh, h⟩ ?_
  clear hh h
  rintro j ⟨sl, hp, bs⟩ hj ⟨C, hC, rfl, h⟩
  simp only [sls_cons, sls_one] at h
  have hcj := hCl j hj
  rw [← hC] at hcj
  unfold hall_Cuts.b1
  by_cases hil : j < m
  · have hil' : (j : Int) < m := by omega
    have hw : IntKind.i64.wrap ((j : Int) + 1) = ((j + 1 : Nat) : Int) := by rw [wrap64] <;> omega
    have hjn : j < n := by omega
    have hju : j < u.length := by omega
    have hsu := toldC_succ F s l u hju
    obtain ⟨x, hx⟩ : ∃ x, x = u[j] := ⟨_, rfl⟩
    have gx : ∀ hh, (ri u)[j]'hh = [V.i x] := fun hh' => by have := ri_get (l := u) (i := j) hju; rw [List.getElem?_eq_getElem hh'] at this; rw [Option.some.inj this, hx]
    have hxl : x ∈ l := hu x (by rw [hx]; exact List.mem_take_iff_getElem.2 ⟨j, by omega, rfl⟩)
    have hval := valuesT hs x
    have hv64 := valsB_small hs.d x
    rw [← hx] at hsu
    obtain ⟨vs, hvs⟩ : ∃ vs, vs = valsB s x := ⟨_, rfl⟩
    rw [← hvs] at hval hv64 hsu
    have hb2 : ∀ st1 : St, At [(1, .ptr 0 1 0 0), (6, .ptr 1 1 0 0), (7, A), (11, .own 3 7 0 C.length C.length), (13, .ptr 5 1 0 0), (50, .own 4 1 0 m n), (51, V.i m), (52, V.i j), (58, vInts vs), (59, V.i vs.length), (60, V.i 0)]
        [ST s ms, P, Fz, .mem false [] (C.map Cs.cells), .mem false [] (ri u), .mem false [] [[V.i x]]] st1 →
        vc Tryz.prog (.loop hall_Cuts.b2) (fun e st' => e = .exit 5 ∧ At [(1, .ptr 0 1 0 0), (6, .ptr 1 1 0 0), (7, A), (11, .own 3 7 0 (C ++ vs.filterMap (mkC F l x)).length (C ++ vs.filterMap (mkC F l x)).length), (50, .own 4 1 0 m n), (51, V.i m), (52, V.i j)]
          [ST s ms, P, Fz, .mem false [] ((C ++ vs.filterMap (mkC F l x)).map Cs.cells), .mem false [] (ri u), .mem false [] [[V.i x]]] st') st1 := by
      rw [hA, hP]
      exact fun st1 h1 => cuts_b2 hll hF hFl hxl hv64 (by omega) hFz h1 fun st' h2 => ⟨rfl, h2⟩
    simp -dsimp [h, hil, hil', ru, gx, hjn, hju]
    refine gcallm1 (hval) 0 (by simp -dsimp [h, addAll]) (by simp -dsimp [h]) (by simp) (by simp) (by simp) (by simp -dsimp [h, idx]) (by simp) ?_
    simp -dsimp [h, vInts]
    show vc Tryz.prog (.loop hall_Cuts.b2) _ _
    refine vc_mono ?_ (hb2 _ ?_)
    rotate_left
    · simp -dsimp [h, At, vInts]
    intro e st' he'
    obtain ⟨rfl, d1, d2⟩ := he'
    simp only [sls_cons, sls_one] at d2
    simp -dsimp [d1, d2, At, hw, hil, hPr, hFz, hAi]
    simp [hC, hsu]
  · have hil' : ¬ (j : Int) < m := by omega
    have e : j = m := by omega
    subst e
    subst hC
    simp -dsimp [h, hil']
    refine hQ _ ?_
    simp -dsimp [h, At, hP]
end
end Go.Abs.G

namespace Go.Abs.G
open Go.Proofs
set_option linter.unusedVariables false
set_option linter.unusedSimpArgs false

theorem fulls_succ {L : List Iv} {i : Nat} (h : i < L.length) : fulls (L.take (i + 1)) = fulls (L.take i) ++ (if L[i].fullB then [L[i]] else []) := by
  unfold fulls
  rw [List.take_succ_eq_append_getElem h, List.filter_append]
  by_cases hf : L[i].fullB = true <;> simp [hf]
theorem fulls_len (L : List Iv) : (fulls L).length ≤ L.length := List.length_filter_le _ _

theorem cuts13_spec {s : List Dom} {ms : List (List Dom)} (hs : Two s ms) (xs : List Int) (hx : xs.length ≤ 1000) :
    DC Tryz.prog hall_Cuts.id [vInts xs, .ptr 0 1 0 0] [ST s ms] (fun r H => (∃ L, IvOk s (placesB s xs) L ∧ ((overB L ∧ r = .tup [nilS, .bool false]) ∨ (¬ overB L ∧ ∃ u : List Int, u.Pairwise (· < ·) ∧ (∀ x, x ∈ u ↔ x ∈ placesB s xs) ∧
      r = .tup [.view 7 ((toldC (fulls L) s (placesB s xs) u).map Cs.cells), .bool true]))) ∧ H = [ST s ms]) := by
  refine DC.trim (Q := fun r H => (∃ L, IvOk s (placesB s xs) L ∧ ((overB L ∧ r = .tup [nilS, .bool false]) ∨ (¬ overB L ∧ ∃ u : List Int, u.Pairwise (· < ·) ∧ (∀ x, x ∈ u ↔ x ∈ placesB s xs) ∧
      r = .tup [.view 7 ((toldC (fulls L) s (placesB s xs) u).map Cs.cells), .bool true]))) ∧ ∃ E, H = ST s ms :: E) ?_ ?_
  rotate_left
  · rintro r H ⟨⟨L, hL, hr⟩, E, rfl⟩
    refine ⟨1, by simp, ?_, ⟨L, hL, hr⟩, by simp⟩
    rcases hr with ⟨_, rfl⟩ | ⟨_, u, _, _, rfl⟩ <;> simp [V.ids, V.idsL]
  refine DC.of hall_Cuts.ok (by simp) ?_
  unfold hall_Cuts.ir
  obtain ⟨l, hl⟩ : ∃ l, l = placesB s xs := ⟨_, rfl⟩
  have hll : l.length ≤ 1000 := by rw [hl]; exact Nat.le_trans (List.length_filter_le _ _) hx
  have hp := places_spec hs xs (by omega)
  rw [← hl] at hp ⊢
  obtain ⟨P, hP⟩ : ∃ P, P = O.mem false [] [[vInts l]] := ⟨_, rfl⟩
  have hPr : P.refs = [] := by rw [hP]; rfl
  refine vc_cut (At [(0, vInts xs), (1, .ptr 0 1 0 0)] [ST s ms]) (by simp -dsimp [At]) ?_
  try clear h
  rintro ⟨sl, hp, bs⟩ ⟨rfl, h⟩
  simp only [sls_cons, sls_one, sls_nil] at h
  refine vc_cut (At [(1, .ptr 0 1 0 0), (6, .ptr 1 1 0 0)] [ST s ms, P]) ?_ ?_
  · simp -dsimp [h]
    refine gcallm1 hp 0 (by simp -dsimp [h, addAll, vInts]) (by simp -dsimp [h]) (by simp) (by simp) (by simp) (by simp -dsimp [h, idx, vInts]) (by simp) ?_
    simp -dsimp [h, At, hP, vInts]
  try clear h
  rintro ⟨sl, hp, bs⟩ ⟨rfl, h⟩
  simp only [sls_cons, sls_one, sls_nil] at h
  refine vc_cut (At [(1, .ptr 0 1 0 0), (6, .ptr 1 1 0 0), (7, nilS)] [ST s ms, P]) (by simp -dsimp [h, At]) ?_
  try clear h
  rintro ⟨sl, hp, bs⟩ ⟨rfl, h⟩
  simp only [sls_cons, sls_one, sls_nil] at h
  refine vc_cut (fun st => ∃ L, IvOk s l L ∧ ¬ overB L ∧ At [(1, .ptr 0 1 0 0), (6, .ptr 1 1 0 0), (7, .own 2 3 0 (fulls L).length (fulls L).length)] [ST s ms, P, .mem false [] ((fulls L).map Iv.cells)] st) ?_ ?_
  · refine vc_cut (fun st => ∃ L, IvOk s l L ∧ At [(1, .ptr 0 1 0 0), (6, .ptr 1 1 0 0), (7, .own 2 3 0 0 0), (22, .view 3 (L.map Iv.cells)), (23, V.i L.length), (24, V.i 0)] [ST s ms, P, .mem false [] []] st) ?_ ?_
    · simp -dsimp [h]
      refine ⟨_, Weak.ownnil 7 3 (by simp -dsimp [h]), ?_⟩
      simp -dsimp [h, hP]
      refine gcallm_gen (intervals_spec hs l hll) [0] (by simp -dsimp [h, addAll, vInts]) ⟨by simp, by simp, by simp, by simp⟩ (by simp -dsimp [h, idx, List.idxOf_cons, vInts]) (by simp [sub]) (by simp) ?_
      rintro r H ⟨⟨L, hL, rfl⟩, rfl⟩
      simp -dsimp [h, merge, place, At, hP]
      exact ⟨L, hL, rfl, rfl⟩
    clear h
    rintro ⟨sl, hp, bs⟩ ⟨L, hL, rfl, h⟩; simp only [sls_cons, sls_one] at h
    obtain ⟨A, hA⟩ : ∃ A, A = V.view 3 (L.map Iv.cells) := ⟨_, rfl⟩
    have hAi : A.ids = [] := by rw [hA]; rfl
    rw [← hA] at h
    refine vc_block_of (vc_upto 3 (by simp) L.length (fun i st => (∀ j (hj : j < L.length), j < i → ¬ (L[j]).over) ∧ ∃ F, F = fulls (L.take i) ∧ At [(1, .ptr 0 1 0 0), (6, .ptr 1 1 0 0), (7, .own 2 3 0 F.length F.length), (22, A), (23, V.i L.length), (24, V.i i)] [ST s ms, P, .mem false [] (F.map Iv.cells)] st) ⟨(fun j hj h => by omega), [], rfl, rfl, h⟩ ?_)
    clear h
    rintro i ⟨sl, hp, bs⟩ hi ⟨ho, F, hF, rfl, h⟩
    simp only [sls_cons, sls_one] at h
    unfold hall_Cuts.b0
    by_cases hil : i < L.length
    · have hil' : (i : Int) < L.length := by omega
      have hLn := hL.n
      have hw : IntKind.i64.wrap ((i : Int) + 1) = ((i + 1 : Nat) : Int) := by rw [wrap64] <;> omega
      have hsu := fulls_succ hil
      have hFl : F.length ≤ 1000000 := by rw [hF]; have := fulls_len (L.take i); rw [List.length_take] at this; omega
      obtain ⟨t, ht⟩ : ∃ t, t = L[i] := ⟨_, rfl⟩
      have htm : t ∈ L := by rw [ht]; exact List.getElem_mem _
      rw [← ht, ← hF] at hsu
      obtain ⟨m1, m2, m3, m4⟩ := hL.mem t htm
      obtain ⟨k1, k2⟩ := hL.lt htm
      have hsz := size13_spec t.a t.b (by omega) (by omega) m1
      have hcl : t.cells = [V.i t.a, V.i t.b, vInts (pN t.w)] := rfl
      have hpl := pN_len t.w
      have hb : ((F.length : Int) + 1) * 40 ≤ 140737488355328 := by omega
      have hnext : t.over → False ∨ True := fun _ => .inr trivial
      by_cases hov : t.b - t.a + 1 < t.w.length
      · simp -dsimp [h, hil, hil', hA, ← ht, hcl, vInts]
        refine gcall (hsz) (by simp -dsimp [h, hpl, hov, vInts, hall_Cuts.rs]) (by simp -dsimp [h, hpl, hov, vInts, hall_Cuts.rs]) ?_
        simp -dsimp [h, hpl, hov, vInts, hall_Cuts.rs]
        exact ⟨L, hL, t, htm, by unfold Iv.over; omega⟩
      · have hno : ∀ j (hj : j < L.length), j < i + 1 → ¬ (L[j]).over := fun j hj hji => by
          by_cases hje : j = i
          · subst hje; rw [← ht]; unfold Iv.over; omega
          · exact ho j hj (by omega)
        by_cases hfu : (t.w.length : Int) = t.b - t.a + 1
        · have hfb : t.fullB = true := by simp [Iv.fullB, hfu]
          rw [if_pos hfb] at hsu
          simp -dsimp [h, hil, hil', hA, ← ht, hcl, vInts]
          refine gcall (hsz) (by simp -dsimp [h, hpl, hov, hfu, vInts]) (by simp -dsimp [h, hpl, hov, hfu, vInts]) ?_
          simp -dsimp [h, hpl, hov, hfu, vInts]
          refine gcall (hsz) (by simp -dsimp [h, hpl, hov, hfu, vInts, At, hw, hil, hPr, hAi, hb]) (by simp -dsimp [h, hpl, hov, hfu, vInts, At, hw, hil, hPr, hAi, hb]) ?_
          simp -dsimp [h, hpl, hov, hfu, vInts, At, hw, hil, hPr, hAi, hb]
          refine ⟨hno, ?_⟩
          simp [hsu, hcl, vInts, hA.symm]
        · have hfb : t.fullB = false := by simp [Iv.fullB, hfu]
          rw [hfb] at hsu
          simp -dsimp [h, hil, hil', hA, ← ht, hcl, vInts]
          refine gcall (hsz) (by simp -dsimp [h, hpl, hov, hfu, vInts]) (by simp -dsimp [h, hpl, hov, hfu, vInts]) ?_
          simp -dsimp [h, hpl, hov, hfu, vInts]
          refine gcall (hsz) (by simp -dsimp [h, hpl, hov, hfu, vInts, At, hw, hil, hPr, hAi]) (by simp -dsimp [h, hpl, hov, hfu, vInts, At, hw, hil, hPr, hAi]) ?_
          simp -dsimp [h, hpl, hov, hfu, vInts, At, hw, hil, hPr, hAi]
          refine ⟨hno, ?_⟩
          simp [hsu, hcl, vInts, hA.symm]
    · have hil' : ¬ (i : Int) < L.length := by omega
      have e : L.take i = L := List.take_of_length_le (by omega)
      rw [e] at hF
      subst hF
      simp -dsimp [h, hil', At]
      exact ⟨L, hL, fun ⟨t, ht, hto⟩ => by
        obtain ⟨j, hj, rfl⟩ := List.getElem_of_mem ht
        exact ho j hj (by omega) hto, by simp⟩
  clear h
  rintro ⟨sl, hp, bs⟩ ⟨L, hL, ho, rfl, h⟩; simp only [sls_cons, sls_one] at h
  have hLn := hL.n
  have hFn := fulls_len L
  have hFm : ∀ i ∈ fulls L, (∀ p ∈ i.w, p < l.length) ∧ i.w.length ≤ l.length := fun i hi => hL.lt (List.mem_filter.1 hi).1
  obtain ⟨F, hF⟩ : ∃ F, F = fulls L := ⟨_, rfl⟩
  rw [← hF] at h hFn hFm ⊢
  have ht : List.take F.length (F.map Iv.cells) = F.map Iv.cells := List.take_of_length_le (by simp)
  refine vc_cut (At [(1, .ptr 0 1 0 0), (6, .ptr 1 1 0 0), (7, .view 3 (F.map Iv.cells)), (11, nilS)] [ST s ms, P, .mem true [] (F.map Iv.cells)]) (by simp -dsimp [h, At, ht]) ?_
  try clear h
  rintro ⟨sl, hp, bs⟩ ⟨rfl, h⟩
  simp only [sls_cons, sls_one, sls_nil] at h
  refine vc_cut (fun st => ∃ u v m, SortedU l v m ∧ u = v.take m ∧ At [(11, .own 3 7 0 (toldC F s l u).length (toldC F s l u).length)] [ST s ms, P, .mem true [] (F.map Iv.cells), .mem false [] ((toldC F s l u).map Cs.cells), .mem false [] (ri v)] st) ?_ ?_
  · refine vc_cut (fun st => ∃ v m, SortedU l v m ∧ At [(1, .ptr 0 1 0 0), (6, .ptr 1 1 0 0), (7, .view 3 (F.map Iv.cells)), (11, .own 3 7 0 0 0), (50, .own 4 1 0 m l.length), (51, V.i m), (52, V.i 0)] [ST s ms, P, .mem true [] (F.map Iv.cells), .mem false [] [], .mem false [] (ri v)] st) ?_ ?_
    · simp -dsimp [h]
      refine ⟨_, Weak.ownnil 11 7 (by simp -dsimp [h]), ?_⟩
      simp -dsimp [h, hP]
      refine gcallm (cloneI l (by omega)) [] (by simp -dsimp [h, addAll, vInts]) ⟨by simp, by simp, by simp, by simp⟩ (by simp -dsimp [h, vInts]) (by simp [sub]) (by simp) ?_
      simp -dsimp [h, merge, place, back, ri_ren]
      refine gcallm_gen (sorted_spec l (by omega)) [4] (by simp -dsimp [h, addAll]) ⟨by simp, by simp, by simp, by simp⟩ (by simp -dsimp [h, idx, List.idxOf_cons]) (by simp [sub, ri_ren]) (by simp) ?_
      rintro r H ⟨v, m, rfl, hv, rfl⟩
      have hvl : (ri v).length = l.length := by rw [ri_len, hv.n]
      simp -dsimp [h, At, merge, place, ri_ren, back, hvl]
      exact ⟨v, m, hv, ⟨hP.symm, rfl⟩, rfl, rfl⟩
    clear h
    rintro ⟨sl, hp, bs⟩ ⟨v, m, hv, hh, h⟩
    rw [hP] at hh
    refine vc_block_of (cuts_b1 hs hll hFm (by omega) (u := v) (m := m) (n := l.length) (by have := hv.m; exact this) hv.n hll (fun x hx => (hv.mem x).1 hx) rfl ⟨hh, h⟩ ?_)
    intro st' h'
    rw [← hP] at h'
    exact ⟨v.take m, v, m, hv, rfl, h'⟩
  clear h
  rintro ⟨sl, hp, bs⟩ ⟨u, v, m, hv, hu, rfl, h⟩; simp only [sls_one] at h
  have ht2 : List.take (toldC F s l u).length ((toldC F s l u).map Cs.cells) = (toldC F s l u).map Cs.cells := List.take_of_length_le (by simp)
  simp -dsimp [h, hall_Cuts.rs, ht2]
  exact ⟨L, hL, ho, u, by rw [hu]; exact hv.up, fun x => by rw [hu]; exact hv.mem x, by rw [hF]⟩
end Go.Abs.G

namespace Go.Abs.G
open Go.Proofs
set_option linter.unusedVariables false
set_option linter.unusedSimpArgs false

theorem sameInts13_spec (a b : List Int) (ha : a.length ≤ maxLen) : Pf Tryz.prog hallmarklaw13_sameInts.id [vInts a, vInts b] (.bool (decide (a = b))) := by
  have hM : (maxLen : Int) ≤ 9223372036854775807 := by decide
  refine DC.of hallmarklaw13_sameInts.ok (by simp) ?_
  unfold hallmarklaw13_sameInts.ir
  refine vc_cut (At [(0, vInts a), (1, vInts b)] []) (by simp -dsimp [At]) ?_
  try clear h
  rintro ⟨sl, hp, bs⟩ ⟨rfl, h⟩
  simp only [sls_cons, sls_one, sls_nil] at h
  refine vc_cut (fun st => a.length = b.length ∧ At [(0, vInts a), (1, vInts b)] [] st) ?_ ?_
  · by_cases hl : a.length = b.length
    · simp -dsimp [h, At, hl, vInts]
    · have hl' : ¬ (a.length : Int) = b.length := by omega
      have hne : a ≠ b := fun e => hl (by rw [e])
      simp -dsimp [h, hl, hl', vInts, hallmarklaw13_sameInts.rs, hne]
  try clear h
  rintro ⟨sl, hp, bs⟩ ⟨hl, rfl, h⟩
  simp only [sls_cons, sls_one, sls_nil] at h
  refine vc_cut (fun st => a = b ∧ st.hp = []) ?_ ?_
  · refine vc_cut (At [(0, vInts a), (1, vInts b), (5, V.i 0)] []) (by simp -dsimp [h, At]) ?_
    try clear h
    rintro ⟨sl, hp, bs⟩ ⟨rfl, h⟩
    simp only [sls_cons, sls_one, sls_nil] at h
    refine vc_block_of (vc_upto 0 (by simp) a.length (fun i st => (∀ j, j < i → a[j]? = b[j]?) ∧ At [(0, vInts a), (1, vInts b), (5, V.i i)] [] st) ⟨by simp, rfl, by simpa using h⟩ ?_)
    clear h
    rintro i ⟨sl, hp, bs⟩ hi ⟨hx, rfl, h⟩
    simp only [sls_cons, sls_one] at h
    unfold hallmarklaw13_sameInts.b0
    by_cases hil : i < a.length
    · have hw : IntKind.i64.wrap ((i : Int) + 1) = ((i + 1 : Nat) : Int) := by rw [wrap64] <;> omega
      have hil' : i < b.length := by omega
      refine vc_cut (At [(0, vInts a), (1, vInts b), (5, V.i i)] []) (by simp -dsimp [h, At, hil, vInts]) ?_
      try clear h
      rintro ⟨sl, hp, bs⟩ ⟨rfl, h⟩
      simp only [sls_cons, sls_one, sls_nil] at h
      refine vc_cut (fun st => a[i]? = b[i]? ∧ At [(0, vInts a), (1, vInts b), (5, V.i i)] [] st) ?_ ?_
      · refine vc_block_of ?_
        by_cases he : a[i] = b[i]
        · simp -dsimp [h, At, vInts, hil, hil', he]
        · have hne : a ≠ b := fun e => he (by subst e; rfl)
          simp -dsimp [h, vInts, hil, hil', he, hallmarklaw13_sameInts.rs, hne]
      try clear h
      rintro ⟨sl, hp, bs⟩ ⟨he, rfl, h⟩
      simp only [sls_cons, sls_one, sls_nil] at h
      simp -dsimp [h, At, hw, hil, vInts]
      intro j hj
      by_cases hji : j = i
      · rw [hji]; exact he
      · exact hx j (by omega)
    · have hil' : i = a.length := by omega
      subst hil'
      simp -dsimp [h, vInts]
      apply List.ext_getElem?
      intro j
      by_cases hj : j < a.length
      · exact hx j hj
      · rw [List.getElem?_eq_none (by omega), List.getElem?_eq_none (by omega)]
  · rintro ⟨sl, hp, bs⟩ ⟨rfl, rfl⟩
    simp -dsimp [hallmarklaw13_sameInts.rs]


theorem sameHall13_spec (a b c d : Int) (xs ys : List Int) (hx : xs.length ≤ maxLen) : Pf Tryz.prog hallmarklaw13_sameHall.id [.agg (hallCells a b xs), .agg (hallCells c d ys)] (.bool (decide (a = c) && (decide (b = d) && decide (xs = ys)))) := by
  refine DC.of hallmarklaw13_sameHall.ok (by simp) ?_
  unfold hallmarklaw13_sameHall.ir
  obtain ⟨A, hA⟩ : ∃ A, A = O.mem false [] [hallCells a b xs] := ⟨_, rfl⟩
  obtain ⟨B, hB⟩ : ∃ B, B = O.mem false [] [hallCells c d ys] := ⟨_, rfl⟩
  refine vc_cut (At [(2, .ptr 0 1 0 0), (3, .ptr 1 1 0 0)] [A, B]) (by simp -dsimp [At, hA, hB, hallCells, vInts]) ?_
  try clear h
  rintro ⟨sl, hp, bs⟩ ⟨rfl, h⟩
  simp only [sls_cons, sls_one, sls_nil] at h
  have hs := sameInts13_spec xs ys hx
  by_cases h1 : a = c
  · by_cases h2 : b = d
    · simp -dsimp [h, hA, hB, hallCells, vInts, h1, h2]
      refine gcall (hs) (by simp -dsimp [h, hA, hB, hallCells, vInts, h1, h2, hallmarklaw13_sameHall.rs]) (by simp -dsimp [h, hA, hB, hallCells, vInts, h1, h2, hallmarklaw13_sameHall.rs]) ?_
      simp -dsimp [h, hA, hB, hallCells, vInts, h1, h2, hallmarklaw13_sameHall.rs]
    · simp -dsimp [h, hA, hB, hallCells, vInts, h1, h2, hallmarklaw13_sameHall.rs]
  · simp -dsimp [h, hA, hB, hallCells, vInts, h1, hallmarklaw13_sameHall.rs]

end Go.Abs.G

namespace Go.Abs.G
open Go.Proofs
set_option linter.unusedVariables false
set_option linter.unusedSimpArgs false

def m13 : Model := ⟨[⟨⟨#[120]⟩, 1, 2⟩, ⟨⟨#[121]⟩, 1, 2⟩, ⟨⟨#[122]⟩, 1, 4⟩, ⟨⟨#[119]⟩, 4, 4⟩], [], false, []⟩
theorem m13_ok : okModel m13 := by
  refine ⟨⟨by decide, fun v hv => ?_⟩, ⟨by decide, fun c hc => by cases hc⟩, by decide, fun t ht => by cases ht⟩
  simp only [m13, List.mem_cons, List.not_mem_nil, or_false] at hv
  rcases hv with rfl | rfl | rfl | rfl <;> exact ⟨by decide, ⟨by decide, by decide⟩, ⟨by decide, by decide⟩⟩

theorem up_eq : ∀ {a b : List Int}, a.Pairwise (· < ·) → b.Pairwise (· < ·) → (∀ x, x ∈ a ↔ x ∈ b) → a = b
  | [], [], _, _, _ => rfl
  | [], y :: b, _, _, h => by have := (h y).2 (by simp); cases this
  | x :: a, [], _, _, h => by have := (h x).1 (by simp); cases this
  | x :: a, y :: b, ha, hb, h => by
    rw [List.pairwise_cons] at ha hb
    have hxy : x = y := by
      have h1 := (h x).1 (by simp); have h2 := (h y).2 (by simp)
      rcases List.mem_cons.1 h1 with e | h1
      · exact e
      · rcases List.mem_cons.1 h2 with e | h2
        · exact e.symm
        · have := hb.1 x h1; have := ha.1 y h2; omega
    subst hxy
    congr 1
    refine up_eq ha.2 hb.2 fun z => ⟨fun hz => ?_, fun hz => ?_⟩
    · rcases List.mem_cons.1 ((h z).1 (by simp [hz])) with e | h1
      · have := ha.1 z hz; omega
      · exact h1
    · rcases List.mem_cons.1 ((h z).2 (by simp [hz])) with e | h1
      · have := hb.1 z hz; omega
      · exact h1

theorem fulls_mem {L : List Iv} {i : Iv} : i ∈ fulls L ↔ i ∈ L ∧ (i.w.length : Int) = i.b - i.a + 1 := by
  unfold fulls; rw [List.mem_filter]; simp [Iv.fullB]
theorem takes_iff {s : List Dom} {l : List Int} {L : List Iv} (hL : IvOk s l L) {x v : Int} (hx : x ∈ l) {i : Iv} (hi : i ∈ L) : takes l x v i = true ↔ i.a ≤ v ∧ v ≤ i.b ∧ ¬ inIv s i x := by
  unfold takes
  rw [(hL.mem i hi).2.1]
  simp only [Bool.and_eq_true, decide_eq_true_eq, Bool.not_eq_true', decide_eq_false_iff_not, own_in hx, inIv, and_assoc]
theorem find_one {α : Type} {p : α → Bool} {l : List α} {a : α} (h1 : ∃ i ∈ l, p i = true) (h2 : ∀ i ∈ l, p i = true → i = a) : l.find? p = some a := by
  cases h : l.find? p with
  | none =>
    obtain ⟨i, hi, hp⟩ := h1
    rw [List.find?_eq_none] at h; exact absurd hp (h i hi)
  | some b => rw [h2 b (List.mem_of_find?_eq_some h) (List.find?_some h)]

/-- What is known of the four domains. -/
structure S13 (s : List Dom) : Prop where
  n : s.length = 4
  v0 : valsB s 0 = [1, 2]
  v1 : valsB s 1 = [1, 2]
  v2 : valsB s 2 = [1, 2, 3, 4]
  v3 : valsB s 3 = [4]
theorem s13 : S13 (domsOf m13) := ⟨by decide +kernel, by decide +kernel, by decide +kernel, by decide +kernel, by decide +kernel⟩
section
variable {s : List Dom} (h : S13 s)
include h
theorem S13.lo0 : loB s 0 = 1 := by simp [loB, h.v0]
theorem S13.lo1 : loB s 1 = 1 := by simp [loB, h.v1]
theorem S13.lo2 : loB s 2 = 1 := by simp [loB, h.v2]
theorem S13.lo3 : loB s 3 = 4 := by simp [loB, h.v3]
theorem S13.hi0 : hiB s 0 = 2 := by simp [hiB, h.v0]
theorem S13.hi1 : hiB s 1 = 2 := by simp [hiB, h.v1]
theorem S13.hi2 : hiB s 2 = 4 := by simp [hiB, h.v2]
theorem S13.hi3 : hiB s 3 = 4 := by simp [hiB, h.v3]
theorem S13.p4 : placesB s [0, 1, 2, 3] = [0, 1, 2, 3] := by simp [placesB, isB, h.n]
theorem S13.p3 : placesB s [0, 1, 0] = [0, 1, 0] := by simp [placesB, isB, h.n]
theorem S13.ins4 (a b : Int) : insB s [0, 1, 2, 3] a b = (if a ≤ 1 ∧ 2 ≤ b then [0, 1] else []) ++ ((if a ≤ 1 ∧ 4 ≤ b then [2] else []) ++ (if a ≤ 4 ∧ 4 ≤ b then [3] else [])) := by
  unfold insB
  rw [show List.range [(0 : Int), 1, 2, 3].length = [0, 1, 2, 3] from rfl]
  simp only [List.filter_cons, List.filter_nil, List.getD_cons_zero, List.getD_cons_succ, h.lo0, h.lo1, h.lo2, h.lo3, h.hi0, h.hi1, h.hi2, h.hi3]
  by_cases h1 : a ≤ 1 <;> by_cases h2 : 2 ≤ b <;> by_cases h4 : a ≤ 4 <;> by_cases h3 : 4 ≤ b <;> first | omega | simp [h1, h2, h3, h4]
theorem S13.ins3 (a b : Int) : insB s [0, 1, 0] a b = if a ≤ 1 ∧ 2 ≤ b then [0, 1, 2] else [] := by
  unfold insB
  rw [show List.range [(0 : Int), 1, 0].length = [0, 1, 2] from rfl]
  simp only [List.filter_cons, List.filter_nil, List.getD_cons_zero, List.getD_cons_succ, h.lo0, h.lo1, h.hi0, h.hi1]
  by_cases h1 : a ≤ 1 <;> by_cases h2 : 2 ≤ b <;> simp [h1, h2]
theorem S13.ok4 {L : List Iv} (hL : IvOk s [0, 1, 2, 3] L) : ¬ overB L := by
  rintro ⟨i, hi, ho⟩
  obtain ⟨h1, h2, _⟩ := hL.mem i hi
  unfold Iv.over at ho
  rw [h2, h.ins4] at ho
  by_cases c1 : i.a ≤ 1 <;> by_cases c2 : 2 ≤ i.b <;> by_cases c3 : 4 ≤ i.b <;> by_cases c4 : i.a ≤ 4 <;> simp [c1, c2, c3, c4] at ho <;> omega
theorem S13.no3 {L : List Iv} (hL : IvOk s [0, 1, 0] L) : overB L := by
  obtain ⟨i, hi, ha, hb⟩ := hL.all 0 (by simp) 0 (by simp) (by rw [h.lo0, h.hi0]; omega)
  refine ⟨i, hi, ?_⟩
  rw [h.lo0] at ha; rw [h.hi0] at hb
  unfold Iv.over
  rw [(hL.mem i hi).2.1, h.ins3, ha, hb]; decide
theorem S13.f3 {L : List Iv} (hL : IvOk s [0, 1, 0] L) {i : Iv} (hi : i ∈ L) (ho : i.over) : hallV i [0, 1, 0] = hallCells 1 2 [0, 1, 0] := by
  obtain ⟨h1, h2, _⟩ := hL.mem i hi
  unfold Iv.over at ho
  rw [h2, h.ins3] at ho
  by_cases c : i.a ≤ 1 ∧ 2 ≤ i.b
  · simp [c] at ho
    have ea : i.a = 1 := by omega
    have eb : i.b = 2 := by omega
    unfold hallV hallX
    rw [h2, h.ins3, ea, eb]; rfl
  · simp [c] at ho; omega
theorem S13.full4 {L : List Iv} (hL : IvOk s [0, 1, 2, 3] L) {i : Iv} (hi : i ∈ fulls L) : i = ⟨1, 2, [0, 1]⟩ ∨ i = ⟨1, 4, [0, 1, 2, 3]⟩ ∨ i = ⟨4, 4, [3]⟩ := by
  obtain ⟨hi, hf⟩ := fulls_mem.1 hi
  obtain ⟨h1, h2, _⟩ := hL.mem i hi
  rw [h2, h.ins4] at hf
  obtain ⟨a, b, w⟩ := i
  simp only at h1 h2 hf ⊢
  rw [h.ins4] at h2
  by_cases c1 : a ≤ 1 <;> by_cases c2 : 2 ≤ b <;> by_cases c3 : 4 ≤ b <;> by_cases c4 : a ≤ 4 <;> simp [c1, c2, c3, c4] at hf h2 <;> first | omega | skip
  · obtain rfl : a = 1 := by omega
    obtain rfl : b = 4 := by omega
    exact .inr (.inl (by rw [h2]))
  · obtain rfl : a = 1 := by omega
    obtain rfl : b = 2 := by omega
    exact .inl (by rw [h2])
  · obtain rfl : a = 4 := by omega
    obtain rfl : b = 4 := by omega
    exact .inr (.inr (by rw [h2]))
theorem S13.told {L : List Iv} (hL : IvOk s [0, 1, 2, 3] L) {u : List Int} (hu : u.Pairwise (· < ·)) (hm : ∀ x, x ∈ u ↔ x ∈ [(0 : Int), 1, 2, 3]) :
    toldC (fulls L) s [0, 1, 2, 3] u = [⟨2, 1, 1, 2, [0, 1]⟩, ⟨2, 2, 1, 2, [0, 1]⟩, ⟨2, 4, 4, 4, [3]⟩] := by
  obtain rfl : u = [0, 1, 2, 3] := up_eq hu (by decide) hm
  obtain ⟨F, hF⟩ : ∃ F, F = fulls L := ⟨_, rfl⟩
  have hfm : ∀ i ∈ F, i ∈ L := fun i hi => by rw [hF] at hi; exact (fulls_mem.1 hi).1
  have hff : ∀ i ∈ F, i = ⟨1, 2, [0, 1]⟩ ∨ i = ⟨1, 4, [0, 1, 2, 3]⟩ ∨ i = ⟨4, 4, [3]⟩ := fun i hi => by rw [hF] at hi; exact h.full4 hL hi
  have e1 : (⟨1, 2, [0, 1]⟩ : Iv) ∈ F := by
    obtain ⟨i, hi, ha, hb⟩ := hL.all 0 (by simp) 0 (by simp) (by rw [h.lo0, h.hi0]; omega)
    rw [h.lo0] at ha; rw [h.hi0] at hb
    have hw := (hL.mem i hi).2.1
    rw [ha, hb, h.ins4] at hw
    obtain ⟨a, b, w⟩ := i
    simp only at ha hb hw
    subst ha hb hw
    rw [hF]; exact fulls_mem.2 ⟨hi, by decide⟩
  have e2 : (⟨4, 4, [3]⟩ : Iv) ∈ F := by
    obtain ⟨i, hi, ha, hb⟩ := hL.all 3 (by simp) 3 (by simp) (by rw [h.lo3, h.hi3]; omega)
    rw [h.lo3] at ha; rw [h.hi3] at hb
    have hw := (hL.mem i hi).2.1
    rw [ha, hb, h.ins4] at hw
    obtain ⟨a, b, w⟩ := i
    simp only at ha hb hw
    subst ha hb hw
    rw [hF]; exact fulls_mem.2 ⟨hi, by decide⟩
  rw [← hF]
  have tk : ∀ x ∈ [(0 : Int), 1, 2, 3], ∀ (v : Int), ∀ i ∈ F, takes [0, 1, 2, 3] x v i = true ↔ i.a ≤ v ∧ v ≤ i.b ∧ ¬ inIv s i x := fun x hx v i hi => takes_iff hL hx (hfm i hi)
  have none : ∀ x ∈ [(0 : Int), 1, 2, 3], ∀ (v : Int), (∀ i ∈ F, i.a ≤ v → v ≤ i.b → inIv s i x) → mkC F [0, 1, 2, 3] x v = none := fun x hx v hv => by
    have : F.find? (takes [0, 1, 2, 3] x v) = none := by
      rw [List.find?_eq_none]
      intro i hi ht
      obtain ⟨t1, t2, t3⟩ := (tk x hx v i hi).1 ht
      exact t3 (hv i hi t1 t2)
    unfold mkC; rw [this]; rfl
  have one : ∀ x ∈ [(0 : Int), 1, 2, 3], ∀ (v : Int) (j : Iv), j ∈ F → j.a ≤ v → v ≤ j.b → ¬ inIv s j x → (∀ i ∈ F, i.a ≤ v → v ≤ i.b → ¬ inIv s i x → i = j) → mkC F [0, 1, 2, 3] x v = some ⟨x, v, j.a, j.b, hallX j [0, 1, 2, 3]⟩ := fun x hx v j hj j1 j2 j3 hu => by
    have : F.find? (takes [0, 1, 2, 3] x v) = some j := find_one ⟨j, hj, (tk x hx v j hj).2 ⟨j1, j2, j3⟩⟩ fun i hi ht => by
      obtain ⟨t1, t2, t3⟩ := (tk x hx v i hi).1 ht
      exact hu i hi t1 t2 t3
    unfold mkC; rw [this]; rfl
  have n0 : ∀ v : Int, v ≤ 2 → mkC F [0, 1, 2, 3] 0 v = .none := fun v hv => none 0 (by simp) v fun i hi a1 a2 => by
    rcases hff i hi with rfl | rfl | rfl <;> unfold inIv <;> rw [h.lo0, h.hi0] <;> simp only at a1 a2 ⊢ <;> omega
  have n1 : ∀ v : Int, v ≤ 2 → mkC F [0, 1, 2, 3] 1 v = .none := fun v hv => none 1 (by simp) v fun i hi a1 a2 => by
    rcases hff i hi with rfl | rfl | rfl <;> unfold inIv <;> rw [h.lo1, h.hi1] <;> simp only at a1 a2 ⊢ <;> omega
  have n3 : mkC F [0, 1, 2, 3] 3 4 = .none := none 3 (by simp) 4 fun i hi a1 a2 => by
    rcases hff i hi with rfl | rfl | rfl <;> unfold inIv <;> rw [h.lo3, h.hi3] <;> simp only at a1 a2 ⊢ <;> omega
  have n23 : mkC F [0, 1, 2, 3] 2 3 = .none := none 2 (by simp) 3 fun i hi a1 a2 => by
    rcases hff i hi with rfl | rfl | rfl <;> unfold inIv <;> rw [h.lo2, h.hi2] <;> simp only at a1 a2 ⊢ <;> omega
  have n2 : ∀ v : Int, 1 ≤ v → v ≤ 2 → mkC F [0, 1, 2, 3] 2 v = some ⟨2, v, 1, 2, [0, 1]⟩ := fun v hv hv2 => one 2 (by simp) v ⟨1, 2, [0, 1]⟩ e1 hv hv2 (by unfold inIv; rw [h.lo2, h.hi2]; simp) fun i hi a1 a2 a3 => by
    unfold inIv at a3
    rw [h.lo2, h.hi2] at a3
    rcases hff i hi with rfl | rfl | rfl <;> simp only at a1 a2 a3 <;> first | rfl | omega
  have n24 : mkC F [0, 1, 2, 3] 2 4 = some ⟨2, 4, 4, 4, [3]⟩ := one 2 (by simp) 4 ⟨4, 4, [3]⟩ e2 (by simp) (by simp) (by unfold inIv; rw [h.lo2, h.hi2]; simp) fun i hi a1 a2 a3 => by
    unfold inIv at a3
    rw [h.lo2, h.hi2] at a3
    rcases hff i hi with rfl | rfl | rfl <;> simp only at a1 a2 a3 <;> first | rfl | omega
  unfold toldC
  simp only [List.flatMap_cons, List.flatMap_nil, h.v0, h.v1, h.v2, h.v3, List.filterMap_cons, List.filterMap_nil, n0 1 (by omega), n0 2 (by omega), n1 1 (by omega), n1 2 (by omega), n2 1 (by omega) (by omega), n2 2 (by omega) (by omega), n23, n24, n3, List.nil_append, List.append_nil]
end
end Go.Abs.G

namespace Go.Abs.G
open Go.Proofs
set_option linter.unusedVariables false
set_option linter.unusedSimpArgs false

section
variable {s : List Dom} (hT : Two s []) (h : S13 s)
include hT h
theorem known13_1 : DC Tryz.prog hall_Cuts.id [vInts [0, 1, 2, 3], .ptr 0 1 0 0] [ST s []] (fun r H => r = .tup [.view 7 (List.map Cs.cells [⟨2, 1, 1, 2, [0, 1]⟩, ⟨2, 2, 1, 2, [0, 1]⟩, ⟨2, 4, 4, 4, [3]⟩]), .bool true] ∧ H = [ST s []]) := by
  refine DC.mono (cuts13_spec hT [0, 1, 2, 3] (by decide)) fun r H ⟨⟨L, hL, hr⟩, hH⟩ => ⟨?_, hH⟩
  rw [h.p4] at hL hr
  rcases hr with ⟨ho, _⟩ | ⟨_, u, hu, hm, rfl⟩
  · exact (h.ok4 hL ho).elim
  · rw [h.told hL hu hm]
theorem known13_2 : DC Tryz.prog hall_Cuts.id [vInts [0, 1, 0], .ptr 0 1 0 0] [ST s []] (fun r H => r = .tup [nilS, .bool false] ∧ H = [ST s []]) := by
  refine DC.mono (cuts13_spec hT [0, 1, 0] (by decide)) fun r H ⟨⟨L, hL, hr⟩, hH⟩ => ⟨?_, hH⟩
  rw [h.p3] at hL hr
  rcases hr with ⟨ho, rfl⟩ | ⟨ho, _⟩
  · rfl
  · exact (ho (h.no3 hL)).elim
theorem known13_3 : DC Tryz.prog hall_Fails.id [vInts [0, 1, 0], .ptr 0 1 0 0] [ST s []] (fun r H => r = .tup [.agg (hallCells 1 2 [0, 1, 0]), .bool true] ∧ H = [ST s []]) := by
  refine DC.mono (fails_spec hT [0, 1, 0] (by decide)) fun r H ⟨⟨L, hL, hr⟩, hH⟩ => ⟨?_, hH⟩
  rw [h.p3] at hL hr
  rcases hr with ⟨i, hi, ho, rfl⟩ | ⟨ho, _⟩
  · rw [h.f3 hL hi ho]
  · exact (ho (h.no3 hL)).elim
end

theorem known13_spec : Pf Tryz.prog hallmarklaw13_known.id [] (.bool true) := by
  refine DC.of hallmarklaw13_known.ok (by simp) ?_
  unfold hallmarklaw13_known.ir
  have hnew := newT m13 m13_ok
  have hT := Two.new m13
  have hS := s13
  have p1 := known13_1 hT hS
  have p2 := known13_2 hT hS
  have p3 := known13_3 hT hS
  have q1 := sameHall13_spec 1 2 1 2 [0, 1, 0] [0, 1, 0] (by decide)
  have q2 := sameHall13_spec 1 2 1 2 [0, 1] [0, 1] (by decide)
  have q3 := sameHall13_spec 4 4 4 4 [3] [3] (by decide)
  generalize domsOf m13 = s at hnew hT p1 p2 p3
  clear hS hT
  simp only [vInts, hallCells, List.map_cons, List.map_nil, Cs.cells] at p1 p2 p3 q1 q2 q3
  refine vc_cut (At [] []) (by simp -dsimp [At]) ?_
  try clear h
  rintro ⟨sl, hp, bs⟩ ⟨rfl, h⟩
  simp only [sls_cons, sls_one, sls_nil] at h
  refine vc_cut (fun st => ∃ A, At [(1, .ptr 1 1 0 0)] [A, ST s []] st) ?_ ?_
  · simp -dsimp [h]
    refine gcallo (zs := [.agg [vVars m13.vars, nilS, .bool false, nilS]]) (H0 := [ST s []]) (r0 := .ptr 0 1 0 0) (DC.sub (.cons (.agg (.cons (.refl _) (.cons (.nil 10) (.cons (.refl _) (.cons (.nil 2) .nil))))) .nil) hnew) (by simp -dsimp [vVars, m13, Var.cells]) (by simp -dsimp [vVars]) (by simp) ?_
    simp -dsimp [At]
  rintro ⟨sl, hp, bs⟩ ⟨A, rfl, h⟩; simp only [sls_one] at h
  refine vc_cut (At [(1, .ptr 1 1 0 0)] [A, ST s []]) (by simp -dsimp [h, At]) ?_
  try clear h
  rintro ⟨sl, hp, bs⟩ ⟨rfl, h⟩
  simp only [sls_cons, sls_one, sls_nil] at h
  refine vc_cut (At [(1, .ptr 1 1 0 0), (2, .view 7 (List.map Cs.cells [⟨2, 1, 1, 2, [0, 1]⟩, ⟨2, 2, 1, 2, [0, 1]⟩, ⟨2, 4, 4, 4, [3]⟩])), (3, .bool true)] [A, ST s [], .res]) ?_ ?_
  · simp -dsimp [h]
    refine gcallm1 (p1) 1 (by simp -dsimp [h, addAll]) (by simp -dsimp [h]) (by simp) (by simp) (by simp) (by simp -dsimp [h, idx]) (by simp) ?_
    simp -dsimp [h, At, Cs.cells, vInts]
  try clear h
  rintro ⟨sl, hp, bs⟩ ⟨rfl, h⟩
  simp only [sls_cons, sls_one, sls_nil] at h
  obtain ⟨C, hC⟩ : ∃ C, C = V.view 7 (List.map Cs.cells [⟨2, 1, 1, 2, [0, 1]⟩, ⟨2, 2, 1, 2, [0, 1]⟩, ⟨2, 4, 4, 4, [3]⟩]) := ⟨_, rfl⟩
  rw [← hC] at h
  refine vc_cut (At [(1, .ptr 1 1 0 0), (2, C), (3, .bool true), (5, .bool false)] [A, ST s [], .res, .res]) ?_ ?_
  · simp -dsimp [h]
    refine gcallm1 (p2) 1 (by simp -dsimp [h, addAll]) (by simp -dsimp [h]) (by simp) (by simp) (by simp) (by simp -dsimp [h, idx]) (by simp) ?_
    simp -dsimp [h, At]
  try clear h
  rintro ⟨sl, hp, bs⟩ ⟨rfl, h⟩
  simp only [sls_cons, sls_one, sls_nil] at h
  obtain ⟨R, hR⟩ : ∃ R, R = O.mem false [] [hallCells 1 2 [0, 1, 0]] := ⟨_, rfl⟩
  refine vc_cut (At [(2, C), (3, .bool true), (5, .bool false), (6, .ptr 5 1 0 0), (7, .bool true)] [A, ST s [], .res, .res, .res, R]) ?_ ?_
  · simp -dsimp [h]
    refine gcallm1 (p3) 1 (by simp -dsimp [h, addAll]) (by simp -dsimp [h]) (by simp) (by simp) (by simp) (by simp -dsimp [h, idx]) (by simp) ?_
    simp -dsimp [h, At, hR, hallCells, vInts]
  try clear h
  rintro ⟨sl, hp, bs⟩ ⟨rfl, h⟩
  simp only [sls_cons, sls_one, sls_nil] at h
  refine vc_cut (At [(2, C)] [A, ST s [], .res, .res, .res, R, .res]) ?_ ?_
  · simp -dsimp [h, hC, hR, hallCells, vInts]
    refine gcall (q1) (by simp -dsimp [h, hC, hR, hallCells, vInts, At]) (by simp -dsimp [h, hC, hR, hallCells, vInts, At]) ?_
    simp -dsimp [h, hC, hR, hallCells, vInts, At]
  try clear h
  rintro ⟨sl, hp, bs⟩ ⟨rfl, h⟩
  simp only [sls_cons, sls_one, sls_nil] at h
  simp -dsimp [h, hC, hR, hallCells, vInts, Cs.cells]
  refine gcall (q2) (by simp -dsimp [h, hC, Cs.cells, vInts]) (by simp -dsimp [h, hC, Cs.cells, vInts]) ?_
  simp -dsimp [h, hC, Cs.cells, vInts]
  refine gcall (q3) (by simp -dsimp [h, hC, Cs.cells, vInts, hallmarklaw13_known.rs]) (by simp -dsimp [h, hC, Cs.cells, vInts, hallmarklaw13_known.rs]) ?_
  simp -dsimp [h, hC, Cs.cells, vInts, hallmarklaw13_known.rs]
end Go.Abs.G

namespace Go.Abs.G
open Go.Proofs
set_option linter.unusedVariables false
set_option linter.unusedSimpArgs false

theorem nodup_sub {α : Type} [DecidableEq α] : ∀ (A B : List α), A.Nodup → (∀ p ∈ A, p ∈ B) → A.length ≤ B.length
  | [], B, _, _ => Nat.zero_le _
  | x :: A, B, hA, hB => by
    obtain ⟨hx, hA⟩ := List.nodup_cons.1 hA
    have := nodup_sub A (B.erase x) hA fun p hp => (List.mem_erase_of_ne (fun e => hx (by rw [← e]; exact hp))).2 (hB p (by simp [hp]))
    have hm := hB x (by simp)
    rw [List.length_erase_of_mem hm] at this
    have := List.length_pos_of_mem hm
    simp only [List.length_cons]; omega
theorem up_len {u l : List Int} (hu : u.Pairwise (· < ·)) (hm : ∀ x, x ∈ u ↔ x ∈ l) : u.length ≤ l.length :=
  nodup_sub u l (List.nodup_iff_pairwise_ne.2 (hu.imp fun h => by omega)) fun p hp => (hm p).1 hp

section
variable {s : List Dom} {l : List Int} {L : List Iv} (hL : IvOk s l L) {u : List Int} (hu : ∀ x, x ∈ u ↔ x ∈ l)
include hL hu
theorem told_why {c : Cs} (hc : c ∈ toldC (fulls L) s l u) : c.x ∈ l ∧ c.v ∈ valsB s c.x ∧ ∃ i ∈ L, i.full ∧ i.a ≤ c.v ∧ c.v ≤ i.b ∧ ¬ inIv s i c.x ∧ c.fr = i.a ∧ c.to = i.b ∧ c.xs = hallX i l := by
  unfold toldC at hc
  obtain ⟨x, hx, hc⟩ := List.mem_flatMap.1 hc
  obtain ⟨v, hv, hc⟩ := List.mem_filterMap.1 hc
  unfold mkC at hc
  cases hf : (fulls L).find? (takes l x v) with
  | none => rw [hf] at hc; cases hc
  | some i =>
    rw [hf] at hc
    obtain rfl := Option.some.inj hc
    have hi := List.mem_of_find?_eq_some hf
    have ht := List.find?_some hf
    have hi2 : i ∈ L ∧ (i.w.length : Int) = i.b - i.a + 1 := by
      unfold fulls at hi
      have := List.mem_filter.1 hi
      exact ⟨this.1, by simpa [Iv.fullB] using this.2⟩
    have hxl := (hu x).1 hx
    unfold takes at ht
    rw [(hL.mem i hi2.1).2.1] at ht
    simp only [Bool.and_eq_true, decide_eq_true_eq, Bool.not_eq_true', decide_eq_false_iff_not, own_in hxl] at ht
    exact ⟨hxl, hv, i, hi2.1, hi2.2, ht.1.1, ht.1.2, ht.2, rfl, rfl, rfl⟩
theorem told_goes {c : Cs} (hc : c ∈ toldC (fulls L) s l u) : goesH s l L c.x c.v := by
  obtain ⟨h1, h2, i, hi, h3, h4, h5, h6, _⟩ := told_why hL hu hc
  exact ⟨h1, h2, i, hi, h3, h4, h5, h6⟩
theorem told_all {x v : Int} (h : goesH s l L x v) : goesC' (toldC (fulls L) s l u) x v = true := by
  obtain ⟨hx, hv, i, hi, hf, ha, hb, hn⟩ := h
  have him : i ∈ fulls L := List.mem_filter.2 ⟨hi, by simp [Iv.fullB]; exact hf⟩
  have ht : takes l x v i = true := by
    unfold takes
    rw [(hL.mem i hi).2.1]
    simp only [Bool.and_eq_true, decide_eq_true_eq, Bool.not_eq_true', decide_eq_false_iff_not, own_in hx]
    exact ⟨⟨ha, hb⟩, hn⟩
  cases hfi : (fulls L).find? (takes l x v) with
  | none => rw [List.find?_eq_none] at hfi; exact absurd ht (hfi i him)
  | some j =>
    have hc : (⟨x, v, j.a, j.b, hallX j l⟩ : Cs) ∈ toldC (fulls L) s l u := List.mem_flatMap.2 ⟨x, (hu x).2 hx, List.mem_filterMap.2 ⟨v, hv, by unfold mkC; rw [hfi]; rfl⟩⟩
    exact List.any_eq_true.2 ⟨_, hc, by simp⟩
theorem goes_iff {x v : Int} : goesC' (toldC (fulls L) s l u) x v = true ↔ goesH s l L x v := by
  refine ⟨fun h => ?_, told_all hL hu⟩
  obtain ⟨c, hc, h⟩ := List.any_eq_true.1 h
  simp only [Bool.and_eq_true, decide_eq_true_eq] at h
  have := told_goes hL hu hc
  rw [h.1, h.2] at this; exact this
theorem told_len (hs : ∀ d ∈ s, DG d) (hup : u.Pairwise (· < ·)) (hl : l.length ≤ 1000) : (toldC (fulls L) s l u).length ≤ 64000 := by
  have h1 := up_len hup hu
  have : ∀ w : List Int, (toldC (fulls L) s l w).length ≤ 64 * w.length := by
    intro w
    induction w with
    | nil => simp [toldC]
    | cons x w ih =>
      have e : toldC (fulls L) s l (x :: w) = (valsB s x).filterMap (mkC (fulls L) l x) ++ toldC (fulls L) s l w := by simp [toldC]
      rw [e, List.length_append, List.length_cons]
      have := List.length_filterMap_le (mkC (fulls L) l x) (valsB s x)
      have := valsB_small hs x
      omega
  have := this u
  omega
end

end Go.Abs.G

namespace Go.Abs.G
open Go.Proofs
set_option linter.unusedVariables false
set_option linter.unusedSimpArgs false

end Go.Abs.G

namespace Go.Abs.G
open Go.Proofs
set_option linter.unusedVariables false
set_option linter.unusedSimpArgs false

/-- What Cuts has told. -/
structure Tol (s : List Dom) (l : List Int) (L : List Iv) (ok : Bool) (r : V) (C : List Cs) : Prop where
  iv : IvOk s l L
  over : ok = false → overB L ∧ r = nilS
  fine : ok = true → ¬ overB L ∧ r = .view 7 (C.map Cs.cells)
  why : ∀ c ∈ C, c.x ∈ l ∧ c.v ∈ valsB s c.x ∧ ∃ i ∈ L, i.full ∧ i.a ≤ c.v ∧ c.v ≤ i.b ∧ ¬ inIv s i c.x ∧ c.fr = i.a ∧ c.to = i.b ∧ c.xs = hallX i l
  goes : ok = true → ∀ x v, goesC' C x v = true ↔ goesH s l L x v
  n : C.length ≤ 64000
theorem cuts_tol {s : List Dom} {ms : List (List Dom)} (hs : Two s ms) (xs : List Int) (hx : xs.length ≤ 1000) :
    DC Tryz.prog hall_Cuts.id [vInts xs, .ptr 0 1 0 0] [ST s ms] (fun r H => (∃ L ok p C, Tol s (placesB s xs) L ok p C ∧ r = .tup [p, .bool ok]) ∧ H = [ST s ms]) := by
  refine DC.mono (cuts13_spec hs xs hx) fun r H ⟨⟨L, hL, hr⟩, hH⟩ => ⟨?_, hH⟩
  rcases hr with ⟨ho, rfl⟩ | ⟨ho, u, hu, hm, rfl⟩
  · exact ⟨L, false, _, [], ⟨hL, fun _ => ⟨ho, rfl⟩, (fun h => by cases h), (fun c hc => by cases hc), (fun h => by cases h), by simp⟩, rfl⟩
  · refine ⟨L, true, _, _, ⟨hL, (fun h => by cases h), fun _ => ⟨ho, rfl⟩, fun c hc => told_why hL hm hc, fun _ x v => goes_iff hL hm, ?_⟩, rfl⟩
    exact told_len hL hm hs.d hu (Nat.le_trans (List.length_filter_le _ _) hx)

end Go.Abs.G

namespace Go.Abs.G
open Go.Proofs
set_option linter.unusedVariables false
set_option linter.unusedSimpArgs false

theorem cutAll_sub {s : List Dom} (h : ∀ d ∈ s, DG d) : ∀ (l : List DCut), (∀ d ∈ cutAll s l, DG d) ∧ (cutAll s l).length = s.length ∧ ∀ x v, v ∈ valsB (cutAll s l) x → v ∈ valsB s x := by
  intro l
  induction l generalizing s with
  | nil => exact ⟨h, rfl, fun x v hv => hv⟩
  | cons c l ih =>
    have hg := (cut_ref h c.k c.x c.v).2
    obtain ⟨i1, i2, i3⟩ := ih hg
    refine ⟨i1, by show (cutAll (cutS s c.k c.x c.v).1 l).length = _; rw [i2, cutS_len], fun x v hv => ?_⟩
    have := i3 x v hv
    rw [cut_rows h] at this
    split at this
    · next hx => rw [hx.1]; exact (List.mem_filter.1 this).1
    · exact this
theorem less_of {d s : List Dom} (hd : ∀ e ∈ d, DG e) (hs : ∀ e ∈ s, DG e) {l : List Int} (hl : ∀ x ∈ l, isB s x = true) (h : ∀ x v, v ∈ valsB s x → v ∈ valsB d x) : LessS d s l :=
  ⟨fun x hx => lo_le (h x _ (head_mem (vals_ne hs (hl x hx)))), fun x hx => le_hi (h x _ (last_mem (vals_ne hs (hl x hx))))⟩

theorem less13_law (m : Model) (cuts more : List DCut) (xs : List Int) (hm : zModel m) (hc : zCuts cuts) (hmo : zCuts more) (hx : zInts xs) : Pf Tryz.prog hallmarklaw13_HallLess.id [.agg m.cells, vCuts cuts, vCuts more, vInts xs] (.bool true) := by
  refine DC.of hallmarklaw13_HallLess.ok (by simp) ?_
  unfold hallmarklaw13_HallLess.ir
  have hM : (maxLen : Int) ≤ 9223372036854775807 := by decide
  have hml := hmo.1
  obtain ⟨B, hB⟩ : ∃ B, B = O.mem false [] [m.cells] := ⟨_, rfl⟩
  have hBr : B.refs = [] := by rw [hB]; rfl
  refine vc_cut (At [(1, vCuts cuts), (2, vCuts more), (3, vInts xs), (4, .ptr 0 1 0 0)] [B]) (by simp -dsimp [At, hB, Model.cells, vVars, vCons, vTerms]) ?_
  try clear h
  rintro ⟨sl, hp, bs⟩ ⟨rfl, h⟩
  simp only [sls_cons, sls_one, sls_nil] at h
  refine vc_cut (fun st => xs.length ≤ 70 ∧ At [(1, vCuts cuts), (2, vCuts more), (3, vInts xs), (4, .ptr 0 1 0 0)] [B] st) ?_ ?_
  · simp -dsimp [h, hB, Model.cells, vVars, vCons, vTerms]
    refine gcall_gen (few13_spec m (cuts.map DCut.cells) xs hm.1 (by simpa using hc.1)) (by simp -dsimp [h, Model.cells, vVars, vCons, vTerms, vCuts]) (by simp [Model.cells, vVars, vCons, vTerms, vInts]) ?_
    rintro r ⟨b, rfl, hb⟩
    cases b
    · simp -dsimp [h, hallmarklaw13_HallLess.rs]
    · simp -dsimp [h, hB, Model.cells, vVars, vCons, vTerms]
      refine gcall_gen (few13_spec m (more.map DCut.cells) xs hm.1 (by simpa using hmo.1)) (by simp -dsimp [h, Model.cells, vVars, vCons, vTerms, vCuts]) (by simp [Model.cells, vVars, vCons, vTerms, vInts]) ?_
      rintro r ⟨b, rfl, hb2⟩
      cases b
      · simp -dsimp [h, hallmarklaw13_HallLess.rs]
      · simp -dsimp [h, At, hB, Model.cells, vVars, vCons, vTerms]
        exact hb rfl
  rintro ⟨sl, hp, bs⟩ ⟨hx70, rfl, h⟩; simp only [sls_cons, sls_one] at h
  refine vc_cut (At [(1, vCuts cuts), (2, vCuts more), (3, vInts xs), (4, .ptr 0 1 0 0)] [B]) ?_ ?_
  · simp -dsimp [h]
    refine gcall known13_spec (by simp -dsimp [h]) (by simp -dsimp [h]) ?_
    simp -dsimp [h, At]
  try clear h
  rintro ⟨sl, hp, bs⟩ ⟨rfl, h⟩
  simp only [sls_cons, sls_one, sls_nil] at h
  obtain ⟨d, hd⟩ : ∃ d, d = cutAll (domsOf m) cuts := ⟨_, rfl⟩
  have hT : Two d [] := by rw [hd]; exact cutAll_two (Two.new m) _
  have hbeh := behind13_spec m cuts hm hc.1
  rw [← hd] at hbeh
  refine vc_cut (At [(2, vCuts more), (3, vInts xs), (9, .ptr 1 1 0 0)] [B, ST d []]) ?_ ?_
  · simp -dsimp [h, hB, Model.cells, vVars, vCons, vTerms]
    refine gcallo hbeh (by simp -dsimp [h, Model.cells, vVars, vCons, vTerms]) (by simp [Model.cells, vVars, vCons, vTerms, vCuts]) (by simp) ?_
    simp -dsimp [h, At, hB, Model.cells, vVars, vCons, vTerms]
  try clear h
  rintro ⟨sl, hp, bs⟩ ⟨rfl, h⟩
  simp only [sls_cons, sls_one, sls_nil] at h
  refine vc_cut (At [(2, vCuts more), (3, vInts xs), (9, .ptr 1 1 0 0)] [B, ST d []]) (by simp -dsimp [h, At]) ?_
  try clear h
  rintro ⟨sl, hp, bs⟩ ⟨rfl, h⟩
  simp only [sls_cons, sls_one, sls_nil] at h
  refine vc_cut (At [(2, vCuts more), (3, vInts xs), (9, .ptr 1 1 0 0), (10, .ptr 2 1 0 0)] [B, ST d [], ST d []]) ?_ ?_
  · simp -dsimp [h]
    refine gcallm1 (copyT hT) 1 (by simp -dsimp [h, addAll]) (by simp -dsimp [h]) (by simp) (by simp) (by simp) (by simp -dsimp [h, idx]) (by simp) ?_
    simp -dsimp [h, At]
  try clear h
  rintro ⟨sl, hp, bs⟩ ⟨rfl, h⟩
  simp only [sls_cons, sls_one, sls_nil] at h
  obtain ⟨s, hs⟩ : ∃ s, s = cutAll d more := ⟨_, rfl⟩
  have hS : Two s [] := by rw [hs]; exact cutAll_two hT _
  obtain ⟨_, hsl, hsub⟩ := cutAll_sub hT.d more
  rw [← hs] at hsl hsub
  refine vc_cut (At [(3, vInts xs), (9, .ptr 1 1 0 0), (10, .ptr 2 1 0 0)] [B, ST d [], ST s []]) ?_ ?_
  · refine vc_cut (At [(2, vCuts more), (3, vInts xs), (9, .ptr 1 1 0 0), (10, .ptr 2 1 0 0), (11, V.i 0)] [B, ST d [], ST d []]) (by simp -dsimp [h, At]) ?_
    try clear h
    rintro ⟨sl, hp, bs⟩ ⟨rfl, h⟩
    simp only [sls_cons, sls_one, sls_nil] at h
    refine vc_block_of (vc_upto 3 (by simp) more.length (fun i st => At [(2, vCuts more), (3, vInts xs), (9, .ptr 1 1 0 0), (10, .ptr 2 1 0 0), (11, V.i i)] [B, ST d [], ST (cutAll d (more.take i)) []] st) ⟨rfl, by simpa using h⟩ ?_)
    clear h
    rintro i ⟨sl, hp, bs⟩ hi ⟨rfl, h⟩
    simp only [sls_cons, sls_one] at h
    unfold hallmarklaw13_HallLess.b0
    have ht : Two (cutAll d (more.take i)) [] := cutAll_two hT _
    by_cases hil : i < more.length
    · have hw : IntKind.i64.wrap ((i : Int) + 1) = ((i + 1 : Nat) : Int) := by rw [wrap64] <;> omega
      have hct := cutAll_take d more hil
      obtain ⟨c, hcc⟩ : ∃ c, c = more[i] := ⟨_, rfl⟩
      rw [← hcc] at hct
      obtain ⟨t, hts⟩ : ∃ t, t = cutAll d (more.take i) := ⟨_, rfl⟩
      rw [← hts] at ht hct
      rw [← hts]
      simp -dsimp [h, hil, vCuts, ← hcc, DCut.cells]
      refine gcallm1 (cutT ht c.k c.x c.v) 2 (by simp -dsimp [h, addAll]) (by simp -dsimp [h]) (by simp) (by simp) (by simp) (by simp -dsimp [h, idx]) (by simp) ?_
      simp -dsimp [h, hil, hw, At, hct, hBr, vCuts, vInts]
    · have hil' : i = more.length := by omega
      subst hil'
      simp -dsimp [h, At, vCuts, hs]
  try clear h
  rintro ⟨sl, hp, bs⟩ ⟨rfl, h⟩
  simp only [sls_cons, sls_one, sls_nil] at h
  obtain ⟨l, hl⟩ : ∃ l, l = placesB s xs := ⟨_, rfl⟩
  have hl2 : l = placesB d xs := by rw [hl]; unfold placesB; congr 1; funext x; unfold isB; rw [hsl]
  have hlS : ∀ x ∈ l, isB s x = true := fun x hx => by rw [hl] at hx; exact placesB_is hx
  have hlD : ∀ x ∈ l, isB d x = true := fun x hx => by rw [hl2] at hx; exact placesB_is hx
  have hless := less_of hT.d hS.d hlS hsub
  have hcd := cuts_tol hT xs (by omega)
  have hcs := cuts_tol hS xs (by omega)
  rw [← hl2] at hcd
  rw [← hl] at hcs
  have idp : ∀ {t : List Dom} {L : List Iv} {ok : Bool} {p : V} {C : List Cs}, Tol t l L ok p C → p.ids = [] ∧ ∀ f, V.ren f p = p := fun {t L ok p C} hTo => by
    cases ok
    · rw [(hTo.over rfl).2]; exact ⟨rfl, fun f => rfl⟩
    · rw [(hTo.fine rfl).2]; exact ⟨rfl, fun f => rfl⟩
  refine vc_cut (fun st => ∃ L ok p C, Tol d l L ok p C ∧ At [(3, vInts xs), (10, .ptr 2 1 0 0), (12, p), (13, .bool ok)] [B, ST d [], ST s []] st) ?_ ?_
  · simp -dsimp [h]
    refine gcallm_gen hcd [1] (by simp -dsimp [h, addAll, vInts]) ⟨by simp, by simp, by simp, by simp⟩ (by simp -dsimp [h, idx, List.idxOf_cons, vInts]) (by simp [sub]) (by simp) ?_
    rintro r H ⟨⟨L, ok, p, C, hTo, rfl⟩, rfl⟩
    simp -dsimp [h, merge, place, back, At, (idp hTo).2]
    refine ⟨L, ?_⟩
    cases ok
    · exact .inl ⟨p, ⟨C, hTo⟩, rfl, rfl⟩
    · exact .inr ⟨p, ⟨C, hTo⟩, rfl, rfl⟩
  clear h
  rintro ⟨sl, hp, bs⟩ ⟨L, ok, p, C, hTo, rfl, h⟩; simp only [sls_cons, sls_one] at h
  refine vc_cut (fun st => ∃ K is q E, Tol s l K is q E ∧ At [(10, .ptr 2 1 0 0), (12, p), (13, .bool ok), (14, q), (15, .bool is)] [B, ST d [], ST s []] st) ?_ ?_
  · simp -dsimp [h]
    refine gcallm_gen hcs [2] (by simp -dsimp [h, addAll, vInts]) ⟨by simp, by simp, by simp, by simp⟩ (by simp -dsimp [h, idx, List.idxOf_cons, vInts]) (by simp [sub]) (by simp) ?_
    rintro r H ⟨⟨K, is, q, E, hTo2, rfl⟩, rfl⟩
    simp -dsimp [h, merge, place, back, At, (idp hTo2).2]
    refine ⟨K, ?_⟩
    cases is
    · exact .inl ⟨q, ⟨E, hTo2⟩, rfl, rfl⟩
    · exact .inr ⟨q, ⟨E, hTo2⟩, rfl, rfl⟩
  clear h
  rintro ⟨sl, hp, bs⟩ ⟨K, is, q, E, hTo2, rfl, h⟩; simp only [sls_cons, sls_one] at h
  have hpi := (idp hTo).1
  have hqi := (idp hTo2).1
  have hLO := less_over hT.d hS.d hlD hlS hTo.iv hTo2.iv hless
  cases ok
  · cases is
    · simp -dsimp [h, hallmarklaw13_HallLess.rs]
    · exact ((hTo2.fine rfl).1 (hLO (hTo.over rfl).1)).elim
  cases is
  · simp -dsimp [h, hallmarklaw13_HallLess.rs]
  refine vc_cut (At [(10, .ptr 2 1 0 0), (12, p), (14, q)] [B, ST d [], ST s []]) (by simp -dsimp [h, At]) ?_
  try clear h
  rintro ⟨sl, hp, bs⟩ ⟨rfl, h⟩
  simp only [sls_cons, sls_one, sls_nil] at h
  obtain ⟨ho, hpC⟩ := hTo.fine rfl
  obtain ⟨ho2, hqE⟩ := hTo2.fine rfl
  have hgo := hTo.goes rfl
  have hgo2 := hTo2.goes rfl
  have hCn := hTo.n
  have hEn := hTo2.n
  refine vc_cut (fun st => True) ?_ ?_
  · refine vc_cut (At [(10, .ptr 2 1 0 0), (12, p), (14, q), (16, V.i 0)] [B, ST d [], ST s []]) (by simp -dsimp [h, At]) ?_
    try clear h
    rintro ⟨sl, hp, bs⟩ ⟨rfl, h⟩
    simp only [sls_cons, sls_one, sls_nil] at h
    refine vc_block_of (vc_upto 3 (by simp) C.length (fun i st => At [(10, .ptr 2 1 0 0), (12, p), (14, q), (16, V.i i)] [B, ST d [], ST s []] st) ⟨rfl, by simpa using h⟩ ?_)
    clear h
    rintro i ⟨sl, hp, bs⟩ hi ⟨rfl, h⟩
    simp only [sls_cons, sls_one] at h
    unfold hallmarklaw13_HallLess.b1
    by_cases hil : i < C.length
    · have hil' : (i : Int) < C.length := by omega
      have hw : IntKind.i64.wrap ((i : Int) + 1) = ((i + 1 : Nat) : Int) := by rw [wrap64] <;> omega
      obtain ⟨c, hc'⟩ : ∃ c, c = C[i] := ⟨_, rfl⟩
      have hcm : c ∈ C := by rw [hc']; exact List.getElem_mem _
      obtain ⟨k1, k2, k3⟩ := hTo.why c hcm
      have hg : goesH d l L c.x c.v := by
        obtain ⟨j, hj, k4, k5, k6, k7, _⟩ := k3
        exact ⟨k1, k2, j, hj, k4, k5, k6, k7⟩
      have hvr := vals_mem hT.d k2
      have hhas := hasT hS c.x c.v ⟨by omega, by omega⟩
      have hgs := goes13_spec E c.x c.v (by omega)
      rw [← hqE] at hgs
      have hcc : c.cells = [V.i 0, V.i 3, V.i c.x, V.i c.v, V.i c.fr, V.i c.to, vInts c.xs] := rfl
      by_cases hin : c.v ∈ valsB s c.x
      · have hgE : goesC' E c.x c.v = true := (hgo2 _ _).2 (less_goes hT.d hS.d hlD hlS hTo.iv hTo2.iv hless ho2 hg hin)
        rw [hgE] at hgs
        rw [decide_eq_true hin] at hhas
        simp -dsimp [h, hpC, hil, hil', ← hc', hcc]
        refine gcallm1 (hhas) 2 (by simp -dsimp [h, addAll]) (by simp -dsimp [h]) (by simp) (by simp) (by simp) (by simp -dsimp [h, idx]) (by simp) ?_
        simp -dsimp [h, hpC]
        refine gcall (hgs) (by simp -dsimp [h, At, hil, hil', hw, hBr, hpi, hqi, hpC]) (by simp -dsimp [h, At, hil, hil', hw, hBr, hpi, hqi, hpC]) ?_
        simp -dsimp [h, At, hil, hil', hw, hBr, hpi, hqi, hpC]
      · rw [decide_eq_false hin] at hhas
        simp -dsimp [h, hpC, hil, hil', ← hc', hcc]
        refine gcallm1 (hhas) 2 (by simp -dsimp [h, addAll]) (by simp -dsimp [h]) (by simp) (by simp) (by simp) (by simp -dsimp [h, idx]) (by simp) ?_
        simp -dsimp [h, At, hil, hil', hw, hBr, hpi, hqi, hpC]
    · have hil' : ¬ (i : Int) < C.length := by omega
      simp -dsimp [h, hil', hpC]
  rintro ⟨sl, hp, bs⟩ _
  simp -dsimp [hallmarklaw13_HallLess.rs]
end Go.Abs.G
