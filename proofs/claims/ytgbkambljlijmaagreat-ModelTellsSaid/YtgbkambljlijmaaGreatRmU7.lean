import Derived.Test.YtgbkambljlijmaaGreatRmU6
set_option linter.all false
namespace Go.Abs.G
open Go.Proofs
theorem zjF {c : Con} {vars : Int} {n : Needs} (h : conN c vars n = 0) (hn : n.op = true) : 1 ≤ c.op ∧ c.op ≤ 3 := by
  unfold conN at h
  split at h
  · cases h
  · next h1 =>
    rw [hn] at h1
    simp at h1
    omega
theorem zjG {c : Con} {vars : Int} {n : Needs} (h : conN c vars n = 0) (hn : n.rows = true) : ∀ r ∈ c.rows, r.length = c.xs.length := by
  unfold conN at h
  split at h
  · cases h
  · split at h
    · cases h
    · split at h
      · cases h
      · next h2 =>
        simp only [Bool.or_eq_true, not_or, Bool.not_eq_true] at h2
        have h3 := h2.2
        unfold wideB at h3
        rw [hn, Bool.true_and] at h3
        simp only [Bool.or_eq_false_iff, List.any_eq_false, decide_eq_true_eq, ne_eq, Decidable.not_not] at h3
        exact h3.2
theorem ziV {c : Con} {vars : Int} {n : Needs} (h : conN c vars n = 0) (hn : n.terms = true) : 1 ≤ c.terms.length := by
  unfold conN at h
  split at h
  · cases h
  · split at h
    · cases h
    · split at h
      · cases h
      · next h2 =>
        simp only [Bool.or_eq_true, not_or, Bool.not_eq_true] at h2
        have h3 := h2.1.1.1
        unfold countsB at h3
        rw [hn] at h3
        simp at h3
        omega
theorem zhl {c : Con} {vars : Int} (h : conB c vars = 0) : ∃ n, needs c.kind = some n ∧ conN c vars n = 0 := by
  unfold conB at h
  split at h
  · simp at h
  · next n hn => exact ⟨n, hn, h⟩
theorem zgr {k : Int} {n : Needs} (h : needs k = some n) :
    (k = 1 ∧ n.op = true ∧ n.terms = true) ∨ (k = 2 ∧ n.x = true ∧ n.y = true) ∨ (k = 3 ∧ n.xs = true) ∨ (k = 4 ∧ n.x = true ∧ n.y = true) ∨ (k = 5 ∧ n.y = true ∧ n.xs = true) ∨ (k = 6 ∧ n.y = true ∧ n.xs = true) ∨ (k = 7 ∧ n.x = true) ∨ (k = 8 ∧ n.rows = true ∧ n.xs = true) ∨ (k = 9 ∧ n.op = true ∧ n.xs = true) := by
  unfold needs at h
  repeat' split at h
  all_goals (first | (cases h; simp_all) | cases h)
theorem con0 (c : Con) : conB c 0 ≠ 0 := by
  intro h
  obtain ⟨n, hn, hc⟩ := zhl h
  have hk := ConOk.of (vars := 0) (by simpa using hc)
  have hX : n.x = true → False := fun e => by have := hk.x e; omega
  have hXs : n.xs = true → False := fun e => by
    have h1 := hk.xs1 e
    have h2 := hk.xs (c.xs[0]) (List.getElem_mem (by omega))
    omega
  have hT : n.terms = true → False := fun e => by
    have h1 := ziV hc e
    have h2 := (hk.terms (c.terms[0]) (List.getElem_mem (by omega))).x
    omega
  rcases zgr hn with ⟨_, _, a⟩ | ⟨_, a, _⟩ | ⟨_, a⟩ | ⟨_, a, _⟩ | ⟨_, _, a⟩ | ⟨_, _, a⟩ | ⟨_, a⟩ | ⟨_, _, a⟩ | ⟨_, _, a⟩
  · exact hT a
  · exact hX a
  · exact hXs a
  · exact hX a
  · exact hXs a
  · exact hXs a
  · exact hX a
  · exact hXs a
  · exact hXs a
theorem zhm (c : Con) (n : Nat) : (conR c n = 0) ↔ (conB c n = 0) := by
  by_cases h : n = 0
  · subst h
    have h1 := con0 c
    have h2 : conR c 0 ≠ 0 := by
      have hp : placesR c 0 = false := by
        unfold placesR
        have : placeR c.x 0 = false := by unfold placeR; rw [Bool.and_eq_false_iff]; simp only [decide_eq_false_iff_not]; omega
        rw [this]; rfl
      unfold conR
      rw [hp]
      repeat' split
      all_goals simp_all
    exact ⟨fun h => (h2 h).elim, fun h => (h1 h).elim⟩
  · rw [zjH c n (by omega)]
theorem zib (c : Con) (vs : List Int) (hc : okCon c) (hv : vs.length ≤ maxLen) : Pf Tryz.prog zaj.id [.agg c.cells, vInts vs] (.bool (holdsB c vs)) := by
  have hM : (maxLen : Int) ≤ 9223372036854775807 := by decide
  have hc0 := hc
  obtain ⟨_, _, _, _, _, _, _, _, _, hrl, hrows⟩ := hc0
  refine DC.of zaj.ok (by simp) ?_
  unfold zaj.ir
  have hcl : c.cells.length = 10 := rfl
  have hcon := zgj c vs.length hc
  have hnum := zeK vs hv
  obtain ⟨B, hB⟩ : ∃ B, B = O.mem false [] [c.cells] := ⟨_, rfl⟩
  refine zac (At [(1, vInts vs), (2, .ptr 0 1 0 0)] [.mem false [] [c.cells]]) (by simp -dsimp [At]) ?_
  try clear h
  rintro ⟨sl, hp, bs⟩ ⟨rfl, h⟩
  simp only [zaa, zab, zad] at h
  refine zac (fun st => conB c vs.length = 0 ∧ greatB vs = false ∧ At [(1, vInts vs), (2, .ptr 0 1 0 0)] [.mem false [] [c.cells]] st) ?_ ?_
  · simp -dsimp [h, hcl, vInts]
    refine gcall (hcon) (by simp -dsimp [h, hcl, vInts]) (by simp -dsimp [h, hcl, vInts]) ?_
    simp -dsimp [h, hcl, vInts]
    by_cases hb : conB c vs.length = 0
    · have hb' := (zhm c vs.length).2 hb
      simp -dsimp [h, hb', hb, vInts]
      refine gcall (hnum) (by simp -dsimp [h, hcl, vInts]) (by simp -dsimp [h, hcl, vInts]) ?_
      simp -dsimp [h, hcl, vInts]
      cases hg : greatB vs
      · simp -dsimp [h, hb, hg, At, vInts]
      · have hH : holdsB c vs = false := by unfold holdsB; rw [hg]; simp
        simp -dsimp [h, hg, hH, zaj.rs]
    · have hb' : ¬ conR c vs.length = 0 := fun e => hb ((zhm c vs.length).1 e)
      have hH : holdsB c vs = false := by unfold holdsB; simp [hb]
      simp -dsimp [h, hb', hb, hH, zaj.rs]
  try clear h
  rintro ⟨sl, hp, bs⟩ ⟨hb, hg, rfl, h⟩
  simp only [zaa, zab, zad] at h
  obtain ⟨n, hn, hcn⟩ := zhl hb
  have hK := ConOk.of hcn
  have hP : AtP c.xs vs := ⟨hK.xsN, hK.xs⟩
  have hH : holdsB c vs = holdsK c (atI vs) := by simp [holdsB, hb, hg]
  rw [hH]
  obtain ⟨kk, hkk⟩ : ∃ kk, kk = c.kind := ⟨_, rfl⟩
  have hck : c.cells = [V.i kk, V.i c.op, vTerms c.terms, V.i c.k, V.i c.v, V.i c.x, V.i c.y, vInts c.xs, vInts c.table, vIntss c.rows] := by rw [hkk]; rfl
  have hAt : ∀ x : Int, 0 ≤ x → x < vs.length → ∃ n : Nat, x = (n : Int) ∧ n < vs.length ∧ (∃ h : n < vs.length, vs[n] = atI vs x) ∧ (-1000000000 ≤ atI vs x ∧ atI vs x ≤ 1000000000) := fun x h0 h1 => by
    obtain ⟨n, e, hn, hn', hv⟩ := ziw h0 h1
    exact ⟨n, e, hn, ⟨hn', hv⟩, zeE hg h0 h1⟩
  rcases zgr hn with ⟨k, a, b⟩ | ⟨k, a, b⟩ | ⟨k, a⟩ | ⟨k, a, b⟩ | ⟨k, a, b⟩ | ⟨k, a, b⟩ | ⟨k, a⟩ | ⟨k, a, b⟩ | ⟨k, a, b⟩ <;> rw [k] at hkk <;> subst hkk
  · have hs := zfS c.terms vs hK.termsN hK.terms hg
    have hl := zfc c.op (sumI (atI vs) c.terms) c.k (zjF hcn a)
    have hR : holdsK c (atI vs) = opB c.op (sumI (atI vs) c.terms) c.k := by unfold holdsK; rw [if_pos k]
    rw [hR]
    simp -dsimp [h, hck, vInts, vTerms]
    refine gcall (hs) (by simp -dsimp [h, hck, vInts, vTerms]) (by simp -dsimp [h, hck, vInts, vTerms]) ?_
    simp -dsimp [h, hck, vInts, vTerms]
    refine gcall (hl) (by simp -dsimp [h, hck, vInts, vTerms, zaj.rs]) (by simp -dsimp [h, hck, vInts, vTerms, zaj.rs]) ?_
    simp -dsimp [h, hck, vInts, vTerms, zaj.rs]
    done
  · obtain ⟨p, hp, hpl, ⟨hpl', hpv⟩, hp1⟩ := hAt c.x (hK.x a).1 (hK.x a).2
    obtain ⟨q, hq, hql, ⟨hql', hqv⟩, hq1⟩ := hAt c.y (hK.y b).1 (hK.y b).2
    have kk1 := hK.k
    have hR : holdsK c (atI vs) = decide (atI vs c.x ≠ atI vs c.y + c.k) := by unfold holdsK; rw [if_neg (by omega), if_pos k]
    rw [hR]
    obtain ⟨gx, hgx⟩ : ∃ gx, gx = atI vs c.x := ⟨_, rfl⟩
    obtain ⟨gy, hgy⟩ : ∃ gy, gy = atI vs c.y := ⟨_, rfl⟩
    rw [← hgx] at hpv hp1 ⊢
    rw [← hgy] at hqv hq1 ⊢
    have hw : IntKind.i64.wrap (gy + c.k) = gy + c.k := by rw [wrap64] <;> omega
    by_cases e : gx = gy + c.k
    · simp -dsimp [h, hck, vInts, hp, hpl, hq, hql, hpv, hqv, hw, e, zaj.rs]
    · simp -dsimp [h, hck, vInts, hp, hpl, hq, hql, hpv, hqv, hw, e, zaj.rs]
  · have hd := zft c.xs vs hP
    have hR : holdsK c (atI vs) = decide ((valsAt c.xs vs).Nodup) := by unfold holdsK; rw [if_neg (by omega), if_neg (by omega), if_pos k]; rfl
    rw [hR]
    simp -dsimp [h, hck, vInts]
    refine gcall (hd) (by simp -dsimp [h, hck, vInts, zaj.rs]) (by simp -dsimp [h, hck, vInts, zaj.rs]) ?_
    simp -dsimp [h, hck, vInts, zaj.rs]
  · obtain ⟨p, hp, hpl, ⟨hpl', hpv⟩, hp1⟩ := hAt c.x (hK.x a).1 (hK.x a).2
    obtain ⟨q, hq, hql, ⟨hql', hqv⟩, hq1⟩ := hAt c.y (hK.y b).1 (hK.y b).2
    have hR : holdsK c (atI vs) = (decide (0 ≤ atI vs c.x) && decide (atI vs c.x < c.table.length) && decide (atI vs c.y = atI c.table (atI vs c.x))) := by unfold holdsK; rw [if_neg (by omega), if_neg (by omega), if_neg (by omega), if_pos k]
    rw [hR]
    obtain ⟨gx, hgx⟩ : ∃ gx, gx = atI vs c.x := ⟨_, rfl⟩
    obtain ⟨gy, hgy⟩ : ∃ gy, gy = atI vs c.y := ⟨_, rfl⟩
    rw [← hgx] at hpv hp1 ⊢
    rw [← hgy] at hqv hq1 ⊢
    by_cases e1 : 0 ≤ gx
    · by_cases e2 : gx < c.table.length
      · obtain ⟨t, ht, htl, htl', htv⟩ := ziw e1 e2
        subst ht
        obtain ⟨gt', hgt⟩ : ∃ g, g = atI c.table (t : Int) := ⟨_, rfl⟩
        rw [← hgt] at htv ⊢
        by_cases e3 : gy = gt'
        · simp -dsimp [h, hck, vInts, hp, hpl, hq, hql, hpv, hqv, e1, e2, htl, htv, e3, zaj.rs]
        · have e3' : ¬ gt' = gy := fun e => e3 e.symm
          simp -dsimp [h, hck, vInts, hp, hpl, hq, hql, hpv, hqv, e1, e2, htl, htv, e3, e3', zaj.rs]
      · simp -dsimp [h, hck, vInts, hp, hpl, hq, hql, hpv, hqv, e1, e2, zaj.rs]
    · simp -dsimp [h, hck, vInts, hp, hpl, hq, hql, hpv, hqv, e1, zaj.rs]
  · obtain ⟨q, hq, hql, ⟨hql', hqv⟩, hq1⟩ := hAt c.y (hK.y a).1 (hK.y a).2
    have hne : valsAt c.xs vs ≠ [] := fun e => by
      have h1 := hK.xs1 b
      have h2 := zdk c.xs vs
      rw [e] at h2; simp at h2; omega
    have hd := zgh (atI vs c.y) (1) c.xs vs hP hg hq1 (by simp)
    rw [zjw hne] at hd
    have hR : holdsK c (atI vs) = decide (atI vs c.y = maxI (valsAt c.xs vs)) := by unfold holdsK; rw [if_neg (by omega), if_neg (by omega), if_neg (by omega), if_neg (by omega), if_pos k]; rfl
    rw [hR]
    obtain ⟨gy, hgy⟩ : ∃ gy, gy = atI vs c.y := ⟨_, rfl⟩
    rw [← hgy] at hqv hq1 hd ⊢
    simp -dsimp [h, hck, vInts, hq, hql, hqv]
    refine gcall (hd) (by simp -dsimp [h, hck, vInts, hq, hql, hqv, zaj.rs]) (by simp -dsimp [h, hck, vInts, hq, hql, hqv, zaj.rs]) ?_
    simp -dsimp [h, hck, vInts, hq, hql, hqv, zaj.rs]
  · obtain ⟨q, hq, hql, ⟨hql', hqv⟩, hq1⟩ := hAt c.y (hK.y a).1 (hK.y a).2
    have hne : valsAt c.xs vs ≠ [] := fun e => by
      have h1 := hK.xs1 b
      have h2 := zdk c.xs vs
      rw [e] at h2; simp at h2; omega
    have hd := zgh (atI vs c.y) (-1) c.xs vs hP hg hq1 (by simp)
    rw [zjx hne] at hd
    have hR : holdsK c (atI vs) = decide (atI vs c.y = minI (valsAt c.xs vs)) := by unfold holdsK; rw [if_neg (by omega), if_neg (by omega), if_neg (by omega), if_neg (by omega), if_neg (by omega), if_pos k]; rfl
    rw [hR]
    obtain ⟨gy, hgy⟩ : ∃ gy, gy = atI vs c.y := ⟨_, rfl⟩
    rw [← hgy] at hqv hq1 hd ⊢
    simp -dsimp [h, hck, vInts, hq, hql, hqv]
    refine gcall (hd) (by simp -dsimp [h, hck, vInts, hq, hql, hqv, zaj.rs]) (by simp -dsimp [h, hck, vInts, hq, hql, hqv, zaj.rs]) ?_
    simp -dsimp [h, hck, vInts, hq, hql, hqv, zaj.rs]
  · obtain ⟨p, hp, hpl, ⟨hpl', hpv⟩, hp1⟩ := hAt c.x (hK.x a).1 (hK.x a).2
    have hs := zfS c.terms vs hK.termsN hK.terms hg
    obtain ⟨S, hS⟩ : ∃ S, S = sumI (atI vs) c.terms := ⟨_, rfl⟩
    have hR : holdsK c (atI vs) = (if S ≤ c.k then decide (atI vs c.x = 1) else decide (atI vs c.x = 0)) := by unfold holdsK; rw [if_neg (by omega), if_neg (by omega), if_neg (by omega), if_neg (by omega), if_neg (by omega), if_neg (by omega), if_pos k, hS]
    rw [hR]
    rw [← hS] at hs
    obtain ⟨gx, hgx⟩ : ∃ gx, gx = atI vs c.x := ⟨_, rfl⟩
    rw [← hgx] at hpv hp1 ⊢
    simp -dsimp [h, hck, vInts, vTerms, hp, hpl, hpv]
    refine gcall (hs) (by simp -dsimp [h, hck, vInts, vTerms, hp, hpl, hpv]) (by simp -dsimp [h, hck, vInts, vTerms, hp, hpl, hpv]) ?_
    simp -dsimp [h, hck, vInts, vTerms, hp, hpl, hpv]
    by_cases e : S ≤ c.k
    · by_cases e1 : gx = 1 <;> simp -dsimp [h, e, e1, zaj.rs]
    · by_cases e1 : gx = 0 <;> simp -dsimp [h, e, e1, zaj.rs]
  · have hd := zhR c vs hP hrl (zjG hcn a)
    have hR : holdsK c (atI vs) = c.rows.any fun r => decide (r = valsAt c.xs vs) := by unfold holdsK; rw [if_neg (by omega), if_neg (by omega), if_neg (by omega), if_neg (by omega), if_neg (by omega), if_neg (by omega), if_neg (by omega), if_pos k]; rfl
    rw [hR]
    rw [hck] at hd
    simp -dsimp [h, hck, vInts]
    refine gcall (hd) (by simp -dsimp [h, hck, vInts, vTerms, vIntss, zaj.rs]) (by simp -dsimp [h, hck, vInts, vTerms, vIntss, zaj.rs]) ?_
    simp -dsimp [h, hck, vInts, vTerms, vIntss, zaj.rs]
  · have hd := zgF c vs hP (zjF hcn a)
    have hR : holdsK c (atI vs) = opB c.op ((c.xs.filter fun x => decide (atI vs x = c.v)).length) c.k := by unfold holdsK; rw [if_neg (by omega), if_neg (by omega), if_neg (by omega), if_neg (by omega), if_neg (by omega), if_neg (by omega), if_neg (by omega), if_neg (by omega)]
    rw [hR]
    rw [hck] at hd
    simp -dsimp [h, hck, vInts]
    refine gcall (hd) (by simp -dsimp [h, hck, vInts, vTerms, vIntss, zaj.rs]) (by simp -dsimp [h, hck, vInts, vTerms, vIntss, zaj.rs]) ?_
    simp -dsimp [h, hck, vInts, vTerms, vIntss, zaj.rs]
end Go.Abs.G

namespace Go.Abs.G
open Go.Proofs
theorem zdX (m : Model) (hm : okModel m) : Pf Tryz.prog zbI.id [.agg m.cells] (.bool (rightB m)) := by
  refine DC.of zbI.ok (by simp) ?_
  unfold zbI.ir
  have hcl : m.cells.length = 4 := rfl
  have hc := zfr m hm
  obtain ⟨a, ha⟩ : ∃ a, a = (checkB m).1 := ⟨_, rfl⟩
  obtain ⟨e, he⟩ : ∃ e, e = (checkB m).2 := ⟨_, rfl⟩
  rw [← ha, ← he] at hc
  have hr : rightB m = decide (e = 0) := by unfold rightB; rw [he]
  rw [hr]
  refine zac (At [(1, .ptr 0 1 0 0)] [.mem false [] [m.cells]]) (by simp -dsimp [At]) ?_
  try clear h
  rintro ⟨sl, hp, bs⟩ ⟨rfl, h⟩
  simp only [zaa, zab, zad] at h
  refine zac (At [(4, V.i e)] [.mem false [] [m.cells]]) ?_ ?_
  · simp -dsimp [h, hcl]
    refine gcall (hc) (by simp -dsimp [h, hcl, At]) (by simp -dsimp [h, hcl, At]) ?_
    simp -dsimp [h, hcl, At]
  try clear h
  rintro ⟨sl, hp, bs⟩ ⟨rfl, h⟩
  simp only [zaa, zab, zad] at h
  by_cases h0 : e = 0 <;> simp -dsimp [h, h0, zbI.rs]
theorem ziv (m : Model) (vs : List Int) (hm : okModel m) (hv : vs.length ≤ maxLen) : Pf Tryz.prog zbq.id [.agg m.cells, vInts vs] (V.i (worthB m vs)) := by
  have hM : (maxLen : Int) ≤ 9223372036854775807 := by decide
  refine DC.of zbq.ok (by simp) ?_
  unfold zbq.ir
  have hmc : m.cells = [vVars m.vars, vCons m.cons, .bool m.hasGoal, vTerms m.goal] := rfl
  have hrt := zdX m hm
  have hnum := zeK vs hv
  refine zac (At [(1, vInts vs), (2, .ptr 0 1 0 0)] [.mem false [] [m.cells]]) (by simp -dsimp [At]) ?_
  try clear h
  rintro ⟨sl, hp, bs⟩ ⟨rfl, h⟩
  simp only [zaa, zab, zad] at h
  refine zac (fun st => rightB m = true ∧ vs.length = m.vars.length ∧ greatB vs = false ∧ At [(1, vInts vs), (2, .ptr 0 1 0 0)] [.mem false [] [m.cells]] st) ?_ ?_
  · simp -dsimp [h, vInts]
    refine gcall (hrt) (by simp -dsimp [h, vInts]) (by simp -dsimp [h, vInts]) ?_
    simp -dsimp [h, vInts]
    cases hr : rightB m
    · have hW : worthB m vs = 0 := by unfold worthB; rw [hr]; simp
      simp -dsimp [h, hW, zbq.rs]
    · by_cases hl : vs.length = m.vars.length
      · simp -dsimp [h, hl, hmc, vInts, vVars]
        refine gcall (hnum) (by simp -dsimp [h, vInts]) (by simp -dsimp [h, vInts]) ?_
        simp -dsimp [h, vInts]
        cases hg : greatB vs
        · simp -dsimp [h, At, vInts, hmc, hg, hl, hr]
          try rfl
        · have hW : worthB m vs = 0 := by unfold worthB; rw [hr, hg]; simp
          simp -dsimp [h, hW, zbq.rs]
      · have hl' : ¬ (vs.length : Int) = m.vars.length := by omega
        have hW : worthB m vs = 0 := by unfold worthB; rw [hr]; simp [hl]
        simp -dsimp [h, hl, hl', hmc, vInts, vVars, hW, zbq.rs]
  try clear h
  rintro ⟨sl, hp, bs⟩ ⟨hr, hl, hg, rfl, h⟩
  simp only [zaa, zab, zad] at h
  have hR := zdi.1 hr
  have ht := hR.terms
  have hs := zfS m.goal vs ht.2 (by rw [hl]; exact ht.1) hg
  have hW : worthB m vs = sumI (atI vs) m.goal := by unfold worthB; rw [hr, hg]; simp [hl]
  rw [hW]
  simp -dsimp [h, hmc, vInts, vTerms]
  refine gcall (hs) (by simp -dsimp [h, hmc, vInts, vTerms, zbq.rs]) (by simp -dsimp [h, hmc, vInts, vTerms, zbq.rs]) ?_
  simp -dsimp [h, hmc, vInts, vTerms, zbq.rs]
theorem zfp (m : Model) (least : Bool) (sign : Int) (hsg : sign = 1 ∧ least = true ∨ sign = -1 ∧ least = false) (hm : okModel m) : Pf Tryz.prog zbr.id [.agg m.cells, V.i sign] (V.i (endsB m least)) := by
  refine DC.of zbr.ok (by simp) ?_
  unfold zbr.ir
  have hmc : m.cells = [vVars m.vars, vCons m.cons, .bool m.hasGoal, vTerms m.goal] := rfl
  have hrt := zdX m hm
  obtain ⟨B, hB⟩ : ∃ B, B = O.mem false [] [m.cells] := ⟨_, rfl⟩
  have hBr : B.refs = [] := by rw [hB]; rfl
  refine zac (At [(1, V.i sign), (2, .ptr 0 1 0 0)] [B]) (by simp -dsimp [At, hB]) ?_
  try clear h
  rintro ⟨sl, hp, bs⟩ ⟨rfl, h⟩
  simp only [zaa, zab, zad] at h
  refine zac (fun st => rightB m = true ∧ At [(1, V.i sign), (2, .ptr 0 1 0 0)] [B] st) ?_ ?_
  · simp -dsimp [h, hB]
    refine gcall (hrt) (by simp -dsimp [h, vInts]) (by simp -dsimp [h, vInts]) ?_
    simp -dsimp [h, vInts]
    cases hr : rightB m
    · have hW : endsB m least = 0 := by unfold endsB; rw [hr]; simp
      simp -dsimp [h, hW, zbr.rs]
    · simp -dsimp [h, At, hr, hB]
  try clear h
  rintro ⟨sl, hp, bs⟩ ⟨hr, rfl, h⟩
  simp only [zaa, zab, zad] at h
  have hR := zdi.1 hr
  obtain ⟨ht, hl⟩ := hR.terms
  have hE : endsB m least = endsI m least m.goal := by simp [endsB, hr]
  rw [hE]
  refine zac (At [(1, V.i sign), (2, .ptr 0 1 0 0), (5, V.i 0)] [B]) (by simp -dsimp [h, At]) ?_
  try clear h
  rintro ⟨sl, hp, bs⟩ ⟨rfl, h⟩
  simp only [zaa, zab, zad] at h
  refine zac (At [(5, V.i (endsI m least m.goal))] [B]) ?_ ?_
  · refine zac (At [(1, V.i sign), (2, .ptr 0 1 0 0), (5, V.i 0), (6, V.i 0)] [B]) (by simp -dsimp [h, At]) ?_
    try clear h
    rintro ⟨sl, hp, bs⟩ ⟨rfl, h⟩
    simp only [zaa, zab, zad] at h
    refine zag (zbY 1 (by simp) m.goal.length (fun i st => ∃ S, S = endsI m least (m.goal.take i) ∧ At [(1, V.i sign), (2, .ptr 0 1 0 0), (5, V.i S), (6, V.i i)] [B] st) ⟨0, by simp [endsI], rfl, by simpa using h⟩ ?_)
    clear h
    rintro i ⟨sl, hp, bs⟩ hi ⟨S, hS, rfl, h⟩
    simp only [zaa, zab] at h
    unfold zbr.b0
    by_cases hil : i < m.goal.length
    · have hil' : (i : Int) < m.goal.length := by omega
      have hw : IntKind.i64.wrap ((i : Int) + 1) = ((i + 1 : Nat) : Int) := by rw [wrap64] <;> omega
      refine zac (At [(1, V.i sign), (2, .ptr 0 1 0 0), (5, V.i S), (6, V.i i)] [B]) (by simp -dsimp [h, At, hil, hil', vTerms, hB, hmc]) ?_
      try clear h
      rintro ⟨sl, hp, bs⟩ ⟨rfl, h⟩
      simp only [zaa, zab, zad] at h
      have hti := ht _ (List.getElem_mem hil)
      have hs := zgm m least hil
      have hb1 := zen hR least (m.goal.take i) fun t h => ht t (List.mem_of_mem_take h)
      have hlen : (m.goal.take i).length ≤ 64 := by simp; omega
      obtain ⟨t, htt⟩ : ∃ t, m.goal[i] = t := ⟨_, rfl⟩
      rw [htt] at hti hs
      rw [← hS] at hs hb1
      obtain ⟨hv1, hv2⟩ := hR.varAt hti.x.1 hti.x.2
      obtain ⟨n, hn⟩ := Int.eq_ofNat_of_zero_le hti.x.1
      have hxl := hti.x.2
      rw [hn] at hxl
      have hxl' : n < m.vars.length := by omega
      have hva : m.vars[n] = varAt m t.x := by
        rw [hn] at hv1
        simp [List.getElem?_eq_getElem hxl'] at hv1
        rw [hn]; exact hv1
      obtain ⟨v, hvv⟩ : ∃ v, varAt m t.x = v := ⟨_, rfl⟩
      rw [hvv] at hva hv2
      have e1 := zdr ⟨hti.c.1, hti.c.2.1⟩ hv2.lo
      have e2 := zdr ⟨hti.c.1, hti.c.2.1⟩ hv2.hi
      have hc1 := hti.c
      have hwl : IntKind.i64.wrap (t.c * v.lo) = t.c * v.lo := by rw [wrap64] <;> omega
      have hwh : IntKind.i64.wrap (t.c * v.hi) = t.c * v.hi := by rw [wrap64] <;> omega
      have hsl : IntKind.i64.wrap (S + t.c * v.lo) = S + t.c * v.lo := by rw [wrap64] <;> omega
      have hsh : IntKind.i64.wrap (S + t.c * v.hi) = S + t.c * v.hi := by rw [wrap64] <;> omega
      have hwc : IntKind.i64.wrap (sign * t.c) = sign * t.c := by rcases hsg with ⟨e, _⟩ | ⟨e, _⟩ <;> subst e <;> rw [wrap64] <;> omega
      obtain ⟨Y, hY⟩ : ∃ Y, Y = O.mem false [] [v.cells] := ⟨_, rfl⟩
      have hYr : Y.refs = [] := by rw [hY]; rfl
      have hvc : v.cells = [.str v.name, V.i v.lo, V.i v.hi] := rfl
      by_cases hlow : 0 < sign * t.c
      · have hO : endOf m least t = t.c * v.lo := by
          unfold endOf
          rcases hsg with ⟨e, e'⟩ | ⟨e, e'⟩ <;> subst e <;> subst e' <;> rw [hvv]
          · rw [if_pos (by simp; omega)]
          · rw [if_pos (by simp; omega)]
        rw [hO] at hs
        refine zac (At [(1, V.i sign), (2, .ptr 0 1 0 0), (5, V.i (S + t.c * v.lo)), (6, V.i i)] [B, Y]) ?_ ?_
        · refine zag ?_
          refine zac (At [(1, V.i sign), (2, .ptr 0 1 0 0), (5, V.i S), (6, V.i i), (7, .ptr 1 1 0 0)] [B, Y]) (by simp -dsimp [h, At, hil, vTerms, vVars, hB, hmc, Term.cells, Var.cells, htt, hn, hxl', hva, hY]) ?_
          try clear h
          rintro ⟨sl, hp, bs⟩ ⟨rfl, h⟩
          simp only [zaa, zab, zad] at h
          simp -dsimp [h, At, hil, vTerms, hB, hmc, Term.cells, htt, hY, hvc, hwc, hlow, hwl, hsl]
        try clear h
        rintro ⟨sl, hp, bs⟩ ⟨rfl, h⟩
        simp only [zaa, zab, zad] at h
        simp -dsimp [h, At, hw, hil, hs, hBr]
      · have hO : endOf m least t = t.c * v.hi := by
          unfold endOf
          rcases hsg with ⟨e, e'⟩ | ⟨e, e'⟩ <;> subst e <;> subst e' <;> rw [hvv]
          · rw [if_neg (by simp; omega)]
          · rw [if_neg (by simp; omega)]
        rw [hO] at hs
        refine zac (At [(1, V.i sign), (2, .ptr 0 1 0 0), (5, V.i (S + t.c * v.hi)), (6, V.i i)] [B, Y]) ?_ ?_
        · refine zag ?_
          refine zac (At [(1, V.i sign), (2, .ptr 0 1 0 0), (5, V.i S), (6, V.i i), (7, .ptr 1 1 0 0)] [B, Y]) (by simp -dsimp [h, At, hil, vTerms, vVars, hB, hmc, Term.cells, Var.cells, htt, hn, hxl', hva, hY]) ?_
          try clear h
          rintro ⟨sl, hp, bs⟩ ⟨rfl, h⟩
          simp only [zaa, zab, zad] at h
          simp -dsimp [h, At, hil, vTerms, hB, hmc, Term.cells, htt, hY, hvc, hwc, hlow, hwh, hsh]
        try clear h
        rintro ⟨sl, hp, bs⟩ ⟨rfl, h⟩
        simp only [zaa, zab, zad] at h
        simp -dsimp [h, At, hw, hil, hs, hBr]
    · have hil' : ¬ (i : Int) < m.goal.length := by omega
      have e : i = m.goal.length := by omega
      subst e
      rw [List.take_length] at hS
      simp -dsimp [h, hil', vTerms, hB, hmc, At, hS]
  try clear h
  rintro ⟨sl, hp, bs⟩ ⟨rfl, h⟩
  simp only [zaa, zab, zad] at h
  simp -dsimp [h, zbr.rs]
end Go.Abs.G

namespace Go.Abs.G
open Go.Proofs
theorem zh5 (m : Model) (hm : okModel m) : Pf Tryz.prog zbP.id [.agg m.cells] (V.i (endsB m true)) := by
  refine DC.of zbP.ok (by simp) ?_
  unfold zbP.ir
  have hcl : m.cells.length = 4 := rfl
  have hb := zfp m true 1 (.inl ⟨rfl, rfl⟩) hm
  refine zac (At [(1, .ptr 0 1 0 0)] [.mem false [] [m.cells]]) (by simp -dsimp [At]) ?_
  try clear h
  rintro ⟨sl, hp, bs⟩ ⟨rfl, h⟩
  simp only [zaa, zab, zad] at h
  simp -dsimp [h, hcl]
  refine gcall (hb) (by simp -dsimp [h, hcl, zbP.rs]) (by simp -dsimp [h, hcl, zbP.rs]) ?_
  simp -dsimp [h, hcl, zbP.rs]
theorem ziS (m : Model) (hm : okModel m) : Pf Tryz.prog zbT.id [.agg m.cells] (V.i (endsB m false)) := by
  refine DC.of zbT.ok (by simp) ?_
  unfold zbT.ir
  have hcl : m.cells.length = 4 := rfl
  have hb := zfp m false (-1) (.inr ⟨rfl, rfl⟩) hm
  refine zac (At [(1, .ptr 0 1 0 0)] [.mem false [] [m.cells]]) (by simp -dsimp [At]) ?_
  try clear h
  rintro ⟨sl, hp, bs⟩ ⟨rfl, h⟩
  simp only [zaa, zab, zad] at h
  simp -dsimp [h, hcl]
  refine gcall (hb) (by simp -dsimp [h, hcl, zbT.rs]) (by simp -dsimp [h, hcl, zbT.rs]) ?_
  simp -dsimp [h, hcl, zbT.rs]
theorem zgd (m : Model) (vs : List Int) (hm : okModel m) (hv : vs.length ≤ maxLen) : Pf Tryz.prog zaH.id [.agg m.cells, vInts vs] (.bool (solB m vs)) := by
  have hM : (maxLen : Int) ≤ 9223372036854775807 := by decide
  refine DC.of zaH.ok (by simp) ?_
  unfold zaH.ir
  have hmc : m.cells = [vVars m.vars, vCons m.cons, .bool m.hasGoal, vTerms m.goal] := rfl
  have hrt := zdX m hm
  obtain ⟨B, hB⟩ : ∃ B, B = O.mem false [] [m.cells] := ⟨_, rfl⟩
  have hBr : B.refs = [] := by rw [hB]; rfl
  refine zac (At [(1, vInts vs), (2, .ptr 0 1 0 0)] [B]) (by simp -dsimp [At, hB]) ?_
  try clear h
  rintro ⟨sl, hp, bs⟩ ⟨rfl, h⟩
  simp only [zaa, zab, zad] at h
  refine zac (fun st => rightB m = true ∧ vs.length = m.vars.length ∧ At [(1, vInts vs), (2, .ptr 0 1 0 0)] [B] st) ?_ ?_
  · simp -dsimp [h, vInts, hB]
    refine gcall (hrt) (by simp -dsimp [h, vInts]) (by simp -dsimp [h, vInts]) ?_
    simp -dsimp [h, vInts]
    cases hr : rightB m
    · have hW : solB m vs = false := by unfold solB; rw [hr]; simp
      simp -dsimp [h, hW, zaH.rs]
    · by_cases hl : vs.length = m.vars.length
      · simp -dsimp [h, At, hl, hr, hB, hmc, vInts, vVars]
        try rfl
      · have hl' : ¬ (vs.length : Int) = m.vars.length := by omega
        have hW : solB m vs = false := by unfold solB; rw [hr]; simp [hl]
        simp -dsimp [h, hl, hl', hmc, vInts, vVars, hW, hB, zaH.rs]
  try clear h
  rintro ⟨sl, hp, bs⟩ ⟨hr, hl, rfl, h⟩
  simp only [zaa, zab, zad] at h
  have hR := zdi.1 hr
  obtain ⟨p, hp⟩ : ∃ p : Var × Int → Bool, p = fun p => decide (p.1.lo ≤ p.2) && decide (p.2 ≤ p.1.hi) := ⟨_, rfl⟩
  obtain ⟨Z, hZ⟩ : ∃ Z, Z = m.vars.zip vs := ⟨_, rfl⟩
  have hZl : Z.length = vs.length := by rw [hZ]; simp; omega
  have hW : solB m vs = (Z.all p && m.cons.all fun c => holdsB c vs) := by unfold solB inBounds; rw [hr, hZ, hp]; simp [hl]
  rw [hW]
  refine zac (fun st => Z.all p = true ∧ At [(1, vInts vs), (2, .ptr 0 1 0 0)] [B] st) ?_ ?_
  · refine zac (At [(1, vInts vs), (2, .ptr 0 1 0 0), (5, V.i 0)] [B]) (by simp -dsimp [h, At]) ?_
    try clear h
    rintro ⟨sl, hp, bs⟩ ⟨rfl, h⟩
    simp only [zaa, zab, zad] at h
    refine zag (zbY 1 (by simp) vs.length (fun i st => (Z.take i).all p = true ∧ At [(1, vInts vs), (2, .ptr 0 1 0 0), (5, V.i i)] [B] st) ⟨by simp, rfl, by simpa using h⟩ ?_)
    clear h
    rintro i ⟨sl, hp', bs⟩ hi ⟨hd, rfl, h⟩
    simp only [zaa, zab] at h
    unfold zaH.b0
    by_cases hil : i < vs.length
    · have hil' : (i : Int) < vs.length := by omega
      have hiv : i < m.vars.length := by omega
      have hiZ : i < Z.length := by omega
      have hw : IntKind.i64.wrap ((i : Int) + 1) = ((i + 1 : Nat) : Int) := by rw [wrap64] <;> omega
      refine zac (At [(1, vInts vs), (2, .ptr 0 1 0 0), (5, V.i i)] [B]) (by simp -dsimp [h, At, hil, hil', vInts]) ?_
      try clear h
      rintro ⟨sl, hp, bs⟩ ⟨rfl, h⟩
      simp only [zaa, zab, zad] at h
      obtain ⟨v, hvv⟩ : ∃ v, m.vars[i] = v := ⟨_, rfl⟩
      obtain ⟨x, hxx⟩ : ∃ x, vs[i] = x := ⟨_, rfl⟩
      have hZi : Z[i] = (v, x) := by simp only [hZ, List.getElem_zip, hvv, hxx]
      have hstep : (Z.take (i + 1)).all p = (decide (v.lo ≤ x) && decide (x ≤ v.hi)) := by
        rw [takeI Z i hiZ, List.all_append, hd, hZi, hp]; simp
      refine zac (fun st => (Z.take (i + 1)).all p = true ∧ At [(1, vInts vs), (2, .ptr 0 1 0 0), (5, V.i i)] [B] st) ?_ ?_
      · refine zag ?_
        by_cases c1 : x < v.lo
        · have hno : Z.all p = false := by
            rw [List.all_eq_false]
            exact ⟨Z[i], List.getElem_mem hiZ, by rw [hZi, hp]; simp; omega⟩
          simp -dsimp [h, hil, hil', hiv, vInts, vVars, Var.cells, hB, hmc, hvv, hxx, c1, hno, zaH.rs]
        · by_cases c2 : v.hi < x
          · have hno : Z.all p = false := by
              rw [List.all_eq_false]
              exact ⟨Z[i], List.getElem_mem hiZ, by rw [hZi, hp]; simp; omega⟩
            simp -dsimp [h, hil, hil', hiv, vInts, vVars, Var.cells, hB, hmc, hvv, hxx, c1, c2, hno, zaH.rs]
          · have hs2 : (Z.take (i + 1)).all p = true := by rw [hstep]; simp; omega
            simp -dsimp [h, hil, hil', hiv, vInts, vVars, Var.cells, hB, hmc, hvv, hxx, c1, c2, hs2, At]
            try rfl
      try clear h
      rintro ⟨sl, hp, bs⟩ ⟨hN, rfl, h⟩
      simp only [zaa, zab, zad] at h
      simp -dsimp [h, At, hw, hil, vInts, hN, hBr]
    · have hil' : ¬ (i : Int) < vs.length := by omega
      have e : i = Z.length := by omega
      rw [e, List.take_length] at hd
      simp -dsimp [h, hil, hil', vInts, hd, At]
  try clear h
  rintro ⟨sl, hp, bs⟩ ⟨hz, rfl, h⟩
  simp only [zaa, zab, zad] at h
  rw [hz, Bool.true_and]
  have hcons := hm.2.1.2
  refine zac (fun st => (m.cons.all fun c => holdsB c vs) = true ∧ At [] [B] st) ?_ ?_
  · refine zac (At [(1, vInts vs), (2, .ptr 0 1 0 0), (6, V.i 0)] [B]) (by simp -dsimp [h, At]) ?_
    try clear h
    rintro ⟨sl, hp, bs⟩ ⟨rfl, h⟩
    simp only [zaa, zab, zad] at h
    refine zag (zbY 1 (by simp) m.cons.length (fun i st => ((m.cons.take i).all fun c => holdsB c vs) = true ∧ At [(1, vInts vs), (2, .ptr 0 1 0 0), (6, V.i i)] [B] st) ⟨by simp, rfl, by simpa using h⟩ ?_)
    clear h
    rintro i ⟨sl, hp', bs⟩ hi ⟨hd, rfl, h⟩
    simp only [zaa, zab] at h
    unfold zaH.b1
    by_cases hil : i < m.cons.length
    · have hil' : (i : Int) < m.cons.length := by omega
      have hnc := hR.nc
      have hw : IntKind.i64.wrap ((i : Int) + 1) = ((i + 1 : Nat) : Int) := by rw [wrap64] <;> omega
      refine zac (At [(1, vInts vs), (2, .ptr 0 1 0 0), (6, V.i i)] [B]) (by simp -dsimp [h, At, hil, hil', hB, hmc, vCons]) ?_
      try clear h
      rintro ⟨sl, hp, bs⟩ ⟨rfl, h⟩
      simp only [zaa, zab, zad] at h
      have hh := zib m.cons[i] vs (hcons _ (List.getElem_mem hil)) hv
      obtain ⟨c, hc⟩ : ∃ c, m.cons[i] = c := ⟨_, rfl⟩
      rw [hc] at hh
      have hstep : ((m.cons.take (i + 1)).all fun c => holdsB c vs) = holdsB c vs := by rw [takeI m.cons i hil, List.all_append, hd, hc]; simp
      refine zac (fun st => holdsB c vs = true ∧ At [(1, vInts vs), (2, .ptr 0 1 0 0), (6, V.i i)] [B] st) ?_ ?_
      · refine zag ?_
        simp -dsimp [h, hil, hil', hB, hmc, vCons, hc, vInts]
        refine gcall (hh) (by simp -dsimp [h, hil, hB, hmc, vCons, hc, vInts]) (by simp -dsimp [h, hil, hB, hmc, vCons, hc, vInts]) ?_
        simp -dsimp [h, hil, hB, hmc, vCons, hc, vInts]
        cases hb : holdsB c vs
        · have hno : (m.cons.all fun c => holdsB c vs) = false := by
            rw [List.all_eq_false]
            exact ⟨c, by rw [← hc]; exact List.getElem_mem hil, by simp [hb]⟩
          simp -dsimp [h, hno, zaH.rs]
        · simp -dsimp [h, At, hb, hB, hmc, vCons, vInts]
      try clear h
      rintro ⟨sl, hp, bs⟩ ⟨hN, rfl, h⟩
      simp only [zaa, zab, zad] at h
      rw [hstep]
      simp -dsimp [h, At, hw, hil, vInts, hN, hBr]
    · have hil' : ¬ (i : Int) < m.cons.length := by omega
      have e : i = m.cons.length := by omega
      rw [e, List.take_length] at hd
      simp -dsimp [h, hil, hil', hB, hmc, vCons, hd, At]
  try clear h
  rintro ⟨sl, hp, bs⟩ ⟨hd, rfl, h⟩
  simp only [zaa, zab, zad] at h
  simp -dsimp [h, zaH.rs, hd]
theorem zg5 (m : Model) (most : Int) (hm : okModel m) (h64 : I64 most) : Pf Tryz.prog za9.id [.agg m.cells, V.i most] (.tup [V.i (prodB m most).1, .bool (prodB m most).2]) := by
  refine DC.of za9.ok (by simp) ?_
  unfold za9.ir
  have hmc : m.cells = [vVars m.vars, vCons m.cons, .bool m.hasGoal, vTerms m.goal] := rfl
  have hrt := zdX m hm
  obtain ⟨B, hB⟩ : ∃ B, B = O.mem false [] [m.cells] := ⟨_, rfl⟩
  have hBr : B.refs = [] := by rw [hB]; rfl
  refine zac (At [(1, V.i most), (2, .ptr 0 1 0 0)] [B]) (by simp -dsimp [At, hB]) ?_
  try clear h
  rintro ⟨sl, hp, bs⟩ ⟨rfl, h⟩
  simp only [zaa, zab, zad] at h
  refine zac (fun st => rightB m = true ∧ ¬ most < 1 ∧ At [(1, V.i most), (2, .ptr 0 1 0 0)] [B] st) ?_ ?_
  · simp -dsimp [h, hB]
    refine gcall (hrt) (by simp -dsimp [h, vInts]) (by simp -dsimp [h, vInts]) ?_
    simp -dsimp [h, vInts]
    cases hr : rightB m
    · have hW : prodB m most = (0, false) := by unfold prodB; rw [hr]; simp
      simp -dsimp [h, hW, za9.rs]
    · by_cases hl : most < 1
      · have hW : prodB m most = (0, false) := by unfold prodB; rw [hr]; simp [hl]
        simp -dsimp [h, hl, hW, za9.rs]
      · simp -dsimp [h, At, hl, hr, hB]
  try clear h
  rintro ⟨sl, hp, bs⟩ ⟨hr, hmost, rfl, h⟩
  simp only [zaa, zab, zad] at h
  have hR := zdi.1 hr
  have hP : prodB m most = prodFrom most 1 m.vars := by simp [prodB, hr, hmost]
  have hnv := hR.nv
  rw [hP]
  obtain ⟨P, hPP⟩ : ∃ P, P = prodFrom most 1 m.vars := ⟨_, rfl⟩
  rw [← hPP]
  refine zac (At [(1, V.i most), (2, .ptr 0 1 0 0), (6, V.i 1)] [B]) (by simp -dsimp [h, At]) ?_
  try clear h
  rintro ⟨sl, hp, bs⟩ ⟨rfl, h⟩
  simp only [zaa, zab, zad] at h
  refine zac (fun st => P.2 = true ∧ At [(6, V.i P.1)] [B] st) ?_ ?_
  · refine zac (At [(1, V.i most), (2, .ptr 0 1 0 0), (6, V.i 1), (7, V.i 0)] [B]) (by simp -dsimp [h, At]) ?_
    try clear h
    rintro ⟨sl, hp, bs⟩ ⟨rfl, h⟩
    simp only [zaa, zab, zad] at h
    refine zag (zbY 1 (by simp) m.vars.length (fun i st => ∃ N : Int, (1 ≤ N ∧ N ≤ most ∧ P = prodFrom most N (m.vars.drop i)) ∧ At [(1, V.i most), (2, .ptr 0 1 0 0), (6, V.i N), (7, V.i i)] [B] st) ⟨1, ⟨by omega, by omega, by rw [hPP]; simp⟩, rfl, by simpa using h⟩ ?_)
    clear h
    rintro i ⟨sl, hp', bs⟩ hi ⟨N, ⟨hN1, hN2, he⟩, rfl, h⟩
    simp only [zaa, zab] at h
    unfold za9.b0
    by_cases hil : i < m.vars.length
    · have hil' : (i : Int) < m.vars.length := by omega
      have hw : IntKind.i64.wrap ((i : Int) + 1) = ((i + 1 : Nat) : Int) := by rw [wrap64] <;> omega
      refine zac (At [(1, V.i most), (2, .ptr 0 1 0 0), (6, V.i N), (7, V.i i)] [B]) (by simp -dsimp [h, At, hil, hil', hB, hmc, vVars]) ?_
      try clear h
      rintro ⟨sl, hp, bs⟩ ⟨rfl, h⟩
      simp only [zaa, zab, zad] at h
      have hvo := VarOk.of (hR.var i _ (List.getElem?_eq_getElem hil))
      rw [List.drop_eq_getElem_cons hil] at he
      simp only [prodFrom] at he
      have l1 := hvo.lo; have l2 := hvo.hi; have l3 := hvo.le; have l4 := hvo.dom
      obtain ⟨_, h64⟩ := h64
      obtain ⟨v, hv⟩ : ∃ v, m.vars[i] = v := ⟨_, rfl⟩
      rw [hv] at he l1 l2 l3 l4
      have hw1 : IntKind.i64.wrap (v.hi - v.lo) = v.hi - v.lo := by rw [wrap64] <;> omega
      have hw2 : IntKind.i64.wrap (v.hi - v.lo + 1) = v.hi - v.lo + 1 := by rw [wrap64] <;> omega
      obtain ⟨sz, hsz⟩ : ∃ sz, v.hi - v.lo + 1 = sz := ⟨_, rfl⟩
      rw [hsz] at he hw2
      have hsz1 : 1 ≤ sz := by omega
      have hq0 : 0 ≤ most.tdiv sz := Int.tdiv_nonneg (by omega) (by omega)
      have hq1 : most.tdiv sz * sz ≤ most := by
        rw [Int.tdiv_eq_ediv_of_nonneg (by omega)]
        exact Int.ediv_mul_le _ (by omega)
      have hq2 : most.tdiv sz ≤ most := by
        rw [Int.tdiv_eq_ediv_of_nonneg (by omega)]
        exact Int.ediv_le_self _ (by omega)
      have hw3 : IntKind.i64.wrap (most.tdiv sz) = most.tdiv sz := by rw [wrap64] <;> omega
      have hsz0 : ¬ sz = 0 := by omega
      by_cases hlt : most.tdiv sz < N
      · rw [if_pos hlt] at he
        refine zac (fun st => False) ?_ ?_
        · refine zag ?_
          refine zac (At [(1, V.i most), (2, .ptr 0 1 0 0), (6, V.i N), (7, V.i i), (8, V.i sz)] [B]) (by simp -dsimp [h, At, hil, hB, hmc, vVars, hv, Var.cells, hw1, hsz, hw2]; try rfl) ?_
          try clear h
          rintro ⟨sl, hp, bs⟩ ⟨rfl, h⟩
          simp only [zaa, zab, zad] at h
          simp -dsimp [h, hw3, hsz0, hlt, he, za9.rs]
        · exact fun s hs => hs.elim
      · rw [if_neg hlt] at he
        have hle : N * sz ≤ most := Int.le_trans (Int.mul_le_mul_of_nonneg_right (by omega) (by omega)) hq1
        have hge : 1 ≤ N * sz := by
          have := Int.mul_le_mul hN1 hsz1 (by omega) (by omega)
          omega
        have hw4 : IntKind.i64.wrap (N * sz) = N * sz := by rw [wrap64] <;> omega
        refine zac (At [(1, V.i most), (2, .ptr 0 1 0 0), (6, V.i (N * sz)), (7, V.i i)] [B]) ?_ ?_
        · refine zag ?_
          refine zac (At [(1, V.i most), (2, .ptr 0 1 0 0), (6, V.i N), (7, V.i i), (8, V.i sz)] [B]) (by simp -dsimp [h, At, hil, hB, hmc, vVars, hv, Var.cells, hw1, hsz, hw2]; try rfl) ?_
          try clear h
          rintro ⟨sl, hp, bs⟩ ⟨rfl, h⟩
          simp only [zaa, zab, zad] at h
          simp -dsimp [h, hw3, hsz0, hlt, At, hw4]
        try clear h
        rintro ⟨sl, hp, bs⟩ ⟨rfl, h⟩
        simp only [zaa, zab, zad] at h
        simp -dsimp [h, At, hw, hil, hBr]
        exact ⟨hge, hle, he⟩
    · have hil' : ¬ (i : Int) < m.vars.length := by omega
      have e : i = m.vars.length := by omega
      subst e
      rw [List.drop_length] at he
      have he' : P = (N, true) := he
      simp -dsimp [h, hil', hB, hmc, vVars, he', At]
  try clear h
  rintro ⟨sl, hp, bs⟩ ⟨hd, rfl, h⟩
  simp only [zaa, zab, zad] at h
  simp -dsimp [h, za9.rs, hd]
end Go.Abs.G

namespace Go.Abs.G
open Go.Proofs
structure ConLen (c : Con) : Prop where
  terms : c.terms.length ≤ maxLen
  xs : c.xs.length ≤ maxLen
  table : c.table.length ≤ maxLen
  rows : c.rows.length ≤ maxLen
  row : ∀ r ∈ c.rows, r.length ≤ maxLen
theorem zha (c : Con) (hc : ConLen c) : Pf Tryz.prog zbw.id [.agg c.cells, .agg c.cells] (.bool true) := by
  refine DC.of zbw.ok (by simp) ?_
  unfold zbw.ir
  have hcc : c.cells = [V.i c.kind, V.i c.op, vTerms c.terms, V.i c.k, V.i c.v, V.i c.x, V.i c.y, vInts c.xs, vInts c.table, vIntss c.rows] := rfl
  have c1 := zga c.rows hc.rows hc.row
  have c2 := zd8 c.terms hc.terms
  have c3 := zdK c.xs hc.xs
  have c4 := zdK c.table hc.table
  refine zac (At [(2, .ptr 0 1 0 0), (3, .ptr 1 1 0 0)] [.mem false [] [c.cells], .mem false [] [c.cells]]) (by simp -dsimp [At]) ?_
  try clear h
  rintro ⟨sl, hp, bs⟩ ⟨rfl, h⟩
  simp only [zaa, zab, zad] at h
  simp -dsimp [h, hcc, vInts, vTerms, vIntss]
  refine gcall (c1) (by simp -dsimp [h, hcc, vInts, vTerms, vIntss]) (by simp -dsimp [h, hcc, vInts, vTerms, vIntss]) ?_
  simp -dsimp [h, hcc, vInts, vTerms, vIntss]
  refine gcall (c2) (by simp -dsimp [h, hcc, vInts, vTerms, vIntss]) (by simp -dsimp [h, hcc, vInts, vTerms, vIntss]) ?_
  simp -dsimp [h, hcc, vInts, vTerms, vIntss]
  refine gcall (c3) (by simp -dsimp [h, hcc, vInts, vTerms, vIntss]) (by simp -dsimp [h, hcc, vInts, vTerms, vIntss]) ?_
  simp -dsimp [h, hcc, vInts, vTerms, vIntss]
  refine gcall (c4) (by simp -dsimp [h, hcc, vInts, vTerms, vIntss, zbw.rs]) (by simp -dsimp [h, hcc, vInts, vTerms, vIntss, zbw.rs]) ?_
  simp -dsimp [h, hcc, vInts, vTerms, vIntss, zbw.rs]
structure ModLen (m : Model) : Prop where
  vars : m.vars.length ≤ maxLen
  cons : m.cons.length ≤ maxLen
  con : ∀ c ∈ m.cons, ConLen c
  goal : m.goal.length ≤ maxLen
theorem zji (m : Model) (hm : ModLen m) : Pf Tryz.prog zbt.id [.agg m.cells, .agg m.cells] (.bool true) := by
  have hM : (maxLen : Int) ≤ 9223372036854775807 := by decide
  have q1 := hm.vars
  have q2 := hm.cons
  refine DC.of zbt.ok (by simp) ?_
  unfold zbt.ir
  have hmc : m.cells = [vVars m.vars, vCons m.cons, .bool m.hasGoal, vTerms m.goal] := rfl
  have c2 := zd8 m.goal hm.goal
  obtain ⟨B, hB⟩ : ∃ B, B = O.mem false [] [m.cells] := ⟨_, rfl⟩
  have hBr : B.refs = [] := by rw [hB]; rfl
  refine zac (At [(2, .ptr 0 1 0 0), (3, .ptr 1 1 0 0)] [B, B]) (by simp -dsimp [At, hB]) ?_
  try clear h
  rintro ⟨sl, hp, bs⟩ ⟨rfl, h⟩
  simp only [zaa, zab, zad] at h
  refine zac (At [(2, .ptr 0 1 0 0), (3, .ptr 1 1 0 0)] [B, B]) ?_ ?_
  · simp -dsimp [h, hB, hmc, vVars, vCons, vTerms]
    refine gcall (c2) (by simp -dsimp [h, hB, hmc, vVars, vCons, vTerms, At]) (by simp -dsimp [h, hB, hmc, vVars, vCons, vTerms, At]) ?_
    simp -dsimp [h, hB, hmc, vVars, vCons, vTerms, At]
  try clear h
  rintro ⟨sl, hp, bs⟩ ⟨rfl, h⟩
  simp only [zaa, zab, zad] at h
  refine zac (At [(2, .ptr 0 1 0 0), (3, .ptr 1 1 0 0)] [B, B]) ?_ ?_
  · refine zac (At [(2, .ptr 0 1 0 0), (3, .ptr 1 1 0 0), (5, V.i 0)] [B, B]) (by simp -dsimp [h, At]) ?_
    try clear h
    rintro ⟨sl, hp, bs⟩ ⟨rfl, h⟩
    simp only [zaa, zab, zad] at h
    refine zag (zbY 2 (by simp) m.vars.length (fun i st => At [(2, .ptr 0 1 0 0), (3, .ptr 1 1 0 0), (5, V.i i)] [B, B] st) ⟨rfl, by simpa using h⟩ ?_)
    clear h
    rintro i ⟨sl, hp', bs⟩ hi ⟨rfl, h⟩
    simp only [zaa, zab] at h
    unfold zbt.b0
    by_cases hil : i < m.vars.length
    · have hil' : (i : Int) < m.vars.length := by omega
      have hw : IntKind.i64.wrap ((i : Int) + 1) = ((i + 1 : Nat) : Int) := by rw [wrap64] <;> omega
      refine zac (At [(2, .ptr 0 1 0 0), (3, .ptr 1 1 0 0), (5, V.i i)] [B, B]) (by simp -dsimp [h, At, hil, hil', hB, hmc, vVars]) ?_
      try clear h
      rintro ⟨sl, hp, bs⟩ ⟨rfl, h⟩
      simp only [zaa, zab, zad] at h
      refine zac (At [(2, .ptr 0 1 0 0), (3, .ptr 1 1 0 0), (5, V.i i)] [B, B]) (by refine zag ?_; simp -dsimp [h, At, hil, hil', hB, hmc, vVars, Var.cells]) ?_
      try clear h
      rintro ⟨sl, hp, bs⟩ ⟨rfl, h⟩
      simp only [zaa, zab, zad] at h
      simp -dsimp [h, At, hw, hil, hBr]
    · have hil' : ¬ (i : Int) < m.vars.length := by omega
      simp -dsimp [h, hil, hil', hB, hmc, vVars, At]
  try clear h
  rintro ⟨sl, hp, bs⟩ ⟨rfl, h⟩
  simp only [zaa, zab, zad] at h
  refine zac (At [] [B, B]) ?_ ?_
  · refine zac (At [(2, .ptr 0 1 0 0), (3, .ptr 1 1 0 0), (6, V.i 0)] [B, B]) (by simp -dsimp [h, At]) ?_
    try clear h
    rintro ⟨sl, hp, bs⟩ ⟨rfl, h⟩
    simp only [zaa, zab, zad] at h
    refine zag (zbY 2 (by simp) m.cons.length (fun i st => At [(2, .ptr 0 1 0 0), (3, .ptr 1 1 0 0), (6, V.i i)] [B, B] st) ⟨rfl, by simpa using h⟩ ?_)
    clear h
    rintro i ⟨sl, hp', bs⟩ hi ⟨rfl, h⟩
    simp only [zaa, zab] at h
    unfold zbt.b1
    by_cases hil : i < m.cons.length
    · have hil' : (i : Int) < m.cons.length := by omega
      have hw : IntKind.i64.wrap ((i : Int) + 1) = ((i + 1 : Nat) : Int) := by rw [wrap64] <;> omega
      refine zac (At [(2, .ptr 0 1 0 0), (3, .ptr 1 1 0 0), (6, V.i i)] [B, B]) (by simp -dsimp [h, At, hil, hil', hB, hmc, vCons]) ?_
      try clear h
      rintro ⟨sl, hp, bs⟩ ⟨rfl, h⟩
      simp only [zaa, zab, zad] at h
      have hh := zha m.cons[i] (hm.con _ (List.getElem_mem hil))
      refine zac (At [(2, .ptr 0 1 0 0), (3, .ptr 1 1 0 0), (6, V.i i)] [B, B]) ?_ ?_
      · refine zag ?_
        simp -dsimp [h, hil, hil', hB, hmc, vCons]
        refine gcall (hh) (by simp -dsimp [h, hil, hB, hmc, vCons, At]) (by simp -dsimp [h, hil, hB, hmc, vCons, At]) ?_
        simp -dsimp [h, hil, hB, hmc, vCons, At]
      try clear h
      rintro ⟨sl, hp, bs⟩ ⟨rfl, h⟩
      simp only [zaa, zab, zad] at h
      simp -dsimp [h, At, hw, hil, hBr]
    · have hil' : ¬ (i : Int) < m.cons.length := by omega
      simp -dsimp [h, hil, hil', hB, hmc, vCons, At]
  try clear h
  rintro ⟨sl, hp, bs⟩ ⟨rfl, h⟩
  simp only [zaa, zab, zad] at h
  simp -dsimp [h, zbt.rs]
end Go.Abs.G

namespace Go.Abs
theorem Weak.nilc (id i j es : Nat) {st : St} {refs : List Nat} {rows : List (List V)} {row : List V} (hid : st.hp[id]? = some (.mem false refs rows)) (hrow : rows[i]? = some row) (hx : row[j]? = some (.a (.slice none 0 0)))
    (hrefs : ∀ (i' : Nat) (row' : List V), rows[i']? = some row' → ∀ (j' : Nat) (y : V), row'[j']? = some y → ∀ k ∈ y.ids, k ∈ refs) :
    Weak st { st with hp := st.hp.set id (.mem false (refs ++ [st.hp.length]) (rows.set i (row.set j (.own st.hp.length es 0 0 0)))) ++ [.mem false [] []] } := by
  have hlt := zbp hid
  refine ⟨rfl, fun k hk => ?_, by simp, fun w β F N a hR => ?_⟩
  · show (st.hp.set id _ ++ _)[k]? = _
    have hne : k ≠ id := by rintro rfl; rw [hid] at hk; simp at hk
    rw [List.getElem?_append_left (by rw [List.length_set]; exact zbp hk), getElem?_set_ne' hne]; exact hk
  · have a1 := zhW (F := F) hR.hok 1
    have hg : (st.hp ++ List.replicate 1 O.res)[st.hp.length]? = some O.res := by simp
    have a2 := zg1 (es := es) (refs := []) (F := F) a1.hok hg
    have e : (st.hp ++ List.replicate 1 O.res).set st.hp.length (.mem false [] []) = st.hp ++ [.mem false [] []] := by
      rw [List.set_append, if_neg (by omega), Nat.sub_self]; rfl
    have a3 : ∀ ad : Option Addr, RV (cx w.heap (st.hp ++ [.mem false [] []]) (upd β st.hp.length ⟨0, 0, 0, es, 0, true, 0, noSub⟩) F) (.slice ad 0 0) (.own st.hp.length es 0 0 0) := fun ad => by
      have := zg2 (es := es) (refs := []) (ad := ad) (hp := w.heap) (F := F) (β := β) hg
      rw [e] at this; exact this
    rw [e] at a2
    have adv := a1.trans a2
    have hid' : (st.hp ++ [O.mem false [] []])[id]? = some (.mem false refs rows) := by
      rw [List.getElem?_append_left hlt]; exact hid
    have only : ∀ {v : Value} {y : V}, RV ((cx w.heap (st.hp ++ [.mem false [] []]) (upd β st.hp.length ⟨0, 0, 0, es, 0, true, 0, noSub⟩) F).only refs) v y → (∀ k ∈ y.ids, k ∈ refs ++ [st.hp.length]) → RV ((cx w.heap (st.hp ++ [.mem false [] []]) (upd β st.hp.length ⟨0, 0, 0, es, 0, true, 0, noSub⟩) F).only (refs ++ [st.hp.length])) v y := fun hv h =>
      (hv.onlyOf (refs ++ [st.hp.length]) h).mono ⟨Nat.le_refl _, fun _ _ hn => ⟨rfl, hn⟩, fun k hl => ⟨hl.1, hl.2.2⟩, fun _ _ _ e => .inl e⟩
    have a4 := zjt (refs' := refs ++ [st.hp.length]) (rows' := rows.set i (row.set j (.own st.hp.length es 0 0 0))) adv.hok hid' (by simp) (fun i' row' hi' => by
      by_cases e : i = i'
      · subst e
        rw [List.getElem?_set_self (zbp hrow)] at hi'
        injection hi' with hi'
        subst hi'
        refine ⟨row, hrow, by simp, fun j' x' hj' => ?_⟩
        by_cases ej : j = j'
        · subst ej
          rw [List.getElem?_set_self (zbp hx)] at hj'
          injection hj' with hj'
          subst hj'
          refine ⟨_, hx, fun v hv => ?_⟩
          rw [hv.of_a]
          exact (a3 none).onlyOf _ (by simp [V.ids])
        · rw [List.getElem?_set_ne ej] at hj'
          exact ⟨x', hj', fun v hv => only hv fun k hk => List.mem_append_left _ (hrefs i row hrow j' x' hj' k hk)⟩
      · rw [List.getElem?_set_ne e] at hi'
        exact ⟨row', hi', rfl, fun j' x' hj' => ⟨x', hj', fun v hv => only hv fun k hk => List.mem_append_left _ (hrefs i' row' hi' j' x' hj' k hk)⟩⟩)
    have hset : (st.hp ++ [O.mem false [] []]).set id (.mem false (refs ++ [st.hp.length]) (rows.set i (row.set j (.own st.hp.length es 0 0 0)))) = st.hp.set id (.mem false (refs ++ [st.hp.length]) (rows.set i (row.set j (.own st.hp.length es 0 0 0)))) ++ [.mem false [] []] := by
      rw [List.set_append, if_pos hlt]
    rw [hset] at a4
    have a5 := adv.trans a4
    exact ⟨_, a5, hR.adv a5⟩
end Go.Abs

namespace Go.Abs
theorem Weak.trans {a b c : St} (h : Weak a b) (k : Weak b c) : Weak a c := by
  obtain ⟨h1, h2, h3, h4⟩ := h
  obtain ⟨k1, k2, k3, k4⟩ := k
  refine ⟨k1.trans h1, fun i e => k2 i (h2 i e), Nat.le_trans h3 k3, fun w β F N act hR => ?_⟩
  obtain ⟨β', h5, h6⟩ := h4 w β F N act hR
  obtain ⟨β'', k5, k6⟩ := k4 w β' F N act h6
  exact ⟨β'', h5.trans k5, k6⟩
namespace G
def rmRowK (k ni nt nv nl nc : Nat) : List V := [.own (k + 1) 1 0 ni ni, .own (k + 2) 1 0 ni ni, nilS, nilS, .own (k + 3) 1 0 nt nt, .own (k + 4) 1 0 nt nt, .own (k + 5) 1 0 nv nv, .own (k + 6) 1 0 nv nv, nilS, nilS, nilS, nilS, nilS, nilS, nilS, nilS, .own (k + 7) 1 0 nl nl, .own (k + 8) 1 0 nl nl, .own (k + 9) 1 0 nc nc, .own (k + 10) 1 0 nc nc, nilS, nilS, nilS, nilS, nilS, nilS, nilS, nilS]
def Rmk (k : Nat) (s : RmS) : Heap := [.mem false [k + 1, k + 2, k + 3, k + 4, k + 5, k + 6, k + 7, k + 8, k + 9, k + 10] [rmRowK k s.i.1.length s.t.1.length s.v.1.length s.l.1.length s.c.1.length],
  .mem false [] (s.i.1.map fun f => [.view 1 f]), .mem false [] (ri s.i.2), .mem false [] (s.t.1.map fun f => [.view 2 f]), .mem false [] (ri s.t.2), .mem false [] (s.v.1.map fun f => [.view 3 f]), .mem false [] (ri s.v.2), .mem false [] (s.l.1.map fun f => [.view 1 f]), .mem false [] (ri s.l.2), .mem false [] (s.c.1.map fun f => [.view 10 f]), .mem false [] (ri s.c.2)]
def rm0 : RmS := ⟨([], []), ([], []), ([], []), ([], []), ([], [])⟩
theorem zmz : RmLe rm0 0 := ⟨⟨.nil _, .nil _, .nil _, .nil _, .nil _⟩, by simp [rm0], by simp [rm0], by simp [rm0], by simp [rm0], by simp [rm0]⟩
def room0 : List V := [nilS, nilS, nilS, nilS, nilS, nilS, nilS, nilS, nilS, nilS, nilS, nilS, nilS, nilS, nilS, nilS, nilS, nilS, nilS, nilS, nilS, nilS, nilS, nilS, nilS, nilS, nilS, nilS]
theorem Weak.nilc1 (k j : Nat) {sl : Sl} {P : Heap} {bs : Nat} {refs : List Nat} {row : List V} {E : Heap} (hk : P.length = k) (hx : row[j]? = some nilS) (hrefs : ∀ (j' : Nat) (y : V), row[j']? = some y → ∀ i ∈ y.ids, i ∈ refs) :
    Weak { sl := sl, hp := P ++ .mem false refs [row] :: E, bs := bs } { sl := sl, hp := P ++ .mem false (refs ++ [k + 1 + E.length]) [row.set j (.own (k + 1 + E.length) 1 0 0 0)] :: (E ++ [.mem false [] []]), bs := bs } := by
  have h := Weak.nilc (st := { sl := sl, hp := P ++ .mem false refs [row] :: E, bs := bs }) k 0 j 1 (refs := refs) (rows := [row]) (row := row) (by subst hk; simp) rfl hx (fun i' row' hi' => by
    cases i' with
    | zero => obtain rfl : row = row' := by simpa using hi'
              exact hrefs
    | succ n => simp at hi')
  have e1 : (P ++ .mem false refs [row] :: E).length = k + 1 + E.length := by simp [hk]; omega
  rw [e1] at h
  have e2 : (P ++ O.mem false refs [row] :: E).set k (.mem false (refs ++ [k + 1 + E.length]) (([row] : List (List V)).set 0 (row.set j (.own (k + 1 + E.length) 1 0 0 0)))) ++ [.mem false [] []] = P ++ .mem false (refs ++ [k + 1 + E.length]) [row.set j (.own (k + 1 + E.length) 1 0 0 0)] :: (E ++ [.mem false [] []]) := by
    subst hk
    simp
  rw [e2] at h
  exact h
end G
end Go.Abs

namespace Go.Abs.G
open Go.Proofs
theorem Weak.room (k : Nat) {sl : Sl} {P : Heap} {bs : Nat} (hk : P.length = k) : Weak { sl := sl, hp := P ++ [.mem false [] [room0]], bs := bs } { sl := sl, hp := P ++ Rmk k rm0, bs := bs } := by
  have h0 := Weak.nilc1 k 0 (sl := sl) (P := P) (bs := bs) (refs := []) (row := [nilS, nilS, nilS, nilS, nilS, nilS, nilS, nilS, nilS, nilS, nilS, nilS, nilS, nilS, nilS, nilS, nilS, nilS, nilS, nilS, nilS, nilS, nilS, nilS, nilS, nilS, nilS, nilS]) (E := []) hk rfl (by
    intro j' y hy i hi
    have hm := List.mem_of_getElem? hy
    simp only [List.mem_cons, List.not_mem_nil, or_false] at hm
    rcases hm with rfl | rfl | rfl | rfl | rfl | rfl | rfl | rfl | rfl | rfl | rfl | rfl | rfl | rfl | rfl | rfl | rfl | rfl | rfl | rfl | rfl | rfl | rfl | rfl | rfl | rfl | rfl | rfl <;> simp [V.ids, nilS] at hi ⊢)
  have h1 := Weak.nilc1 k 1 (sl := sl) (P := P) (bs := bs) (refs := [k + 1]) (row := [.own (k + 1) 1 0 0 0, nilS, nilS, nilS, nilS, nilS, nilS, nilS, nilS, nilS, nilS, nilS, nilS, nilS, nilS, nilS, nilS, nilS, nilS, nilS, nilS, nilS, nilS, nilS, nilS, nilS, nilS, nilS]) (E := [.mem false [] []]) hk rfl (by
    intro j' y hy i hi
    have hm := List.mem_of_getElem? hy
    simp only [List.mem_cons, List.not_mem_nil, or_false] at hm
    rcases hm with rfl | rfl | rfl | rfl | rfl | rfl | rfl | rfl | rfl | rfl | rfl | rfl | rfl | rfl | rfl | rfl | rfl | rfl | rfl | rfl | rfl | rfl | rfl | rfl | rfl | rfl | rfl | rfl <;> simp [V.ids, nilS] at hi ⊢ <;> omega)
  have h2 := Weak.nilc1 k 4 (sl := sl) (P := P) (bs := bs) (refs := [k + 1, k + 2]) (row := [.own (k + 1) 1 0 0 0, .own (k + 2) 1 0 0 0, nilS, nilS, nilS, nilS, nilS, nilS, nilS, nilS, nilS, nilS, nilS, nilS, nilS, nilS, nilS, nilS, nilS, nilS, nilS, nilS, nilS, nilS, nilS, nilS, nilS, nilS]) (E := [.mem false [] [], .mem false [] []]) hk rfl (by
    intro j' y hy i hi
    have hm := List.mem_of_getElem? hy
    simp only [List.mem_cons, List.not_mem_nil, or_false] at hm
    rcases hm with rfl | rfl | rfl | rfl | rfl | rfl | rfl | rfl | rfl | rfl | rfl | rfl | rfl | rfl | rfl | rfl | rfl | rfl | rfl | rfl | rfl | rfl | rfl | rfl | rfl | rfl | rfl | rfl <;> simp [V.ids, nilS] at hi ⊢ <;> omega)
  have h3 := Weak.nilc1 k 5 (sl := sl) (P := P) (bs := bs) (refs := [k + 1, k + 2, k + 3]) (row := [.own (k + 1) 1 0 0 0, .own (k + 2) 1 0 0 0, nilS, nilS, .own (k + 3) 1 0 0 0, nilS, nilS, nilS, nilS, nilS, nilS, nilS, nilS, nilS, nilS, nilS, nilS, nilS, nilS, nilS, nilS, nilS, nilS, nilS, nilS, nilS, nilS, nilS]) (E := [.mem false [] [], .mem false [] [], .mem false [] []]) hk rfl (by
    intro j' y hy i hi
    have hm := List.mem_of_getElem? hy
    simp only [List.mem_cons, List.not_mem_nil, or_false] at hm
    rcases hm with rfl | rfl | rfl | rfl | rfl | rfl | rfl | rfl | rfl | rfl | rfl | rfl | rfl | rfl | rfl | rfl | rfl | rfl | rfl | rfl | rfl | rfl | rfl | rfl | rfl | rfl | rfl | rfl <;> simp [V.ids, nilS] at hi ⊢ <;> omega)
  have h4 := Weak.nilc1 k 6 (sl := sl) (P := P) (bs := bs) (refs := [k + 1, k + 2, k + 3, k + 4]) (row := [.own (k + 1) 1 0 0 0, .own (k + 2) 1 0 0 0, nilS, nilS, .own (k + 3) 1 0 0 0, .own (k + 4) 1 0 0 0, nilS, nilS, nilS, nilS, nilS, nilS, nilS, nilS, nilS, nilS, nilS, nilS, nilS, nilS, nilS, nilS, nilS, nilS, nilS, nilS, nilS, nilS]) (E := [.mem false [] [], .mem false [] [], .mem false [] [], .mem false [] []]) hk rfl (by
    intro j' y hy i hi
    have hm := List.mem_of_getElem? hy
    simp only [List.mem_cons, List.not_mem_nil, or_false] at hm
    rcases hm with rfl | rfl | rfl | rfl | rfl | rfl | rfl | rfl | rfl | rfl | rfl | rfl | rfl | rfl | rfl | rfl | rfl | rfl | rfl | rfl | rfl | rfl | rfl | rfl | rfl | rfl | rfl | rfl <;> simp [V.ids, nilS] at hi ⊢ <;> omega)
  have h5 := Weak.nilc1 k 7 (sl := sl) (P := P) (bs := bs) (refs := [k + 1, k + 2, k + 3, k + 4, k + 5]) (row := [.own (k + 1) 1 0 0 0, .own (k + 2) 1 0 0 0, nilS, nilS, .own (k + 3) 1 0 0 0, .own (k + 4) 1 0 0 0, .own (k + 5) 1 0 0 0, nilS, nilS, nilS, nilS, nilS, nilS, nilS, nilS, nilS, nilS, nilS, nilS, nilS, nilS, nilS, nilS, nilS, nilS, nilS, nilS, nilS]) (E := [.mem false [] [], .mem false [] [], .mem false [] [], .mem false [] [], .mem false [] []]) hk rfl (by
    intro j' y hy i hi
    have hm := List.mem_of_getElem? hy
    simp only [List.mem_cons, List.not_mem_nil, or_false] at hm
    rcases hm with rfl | rfl | rfl | rfl | rfl | rfl | rfl | rfl | rfl | rfl | rfl | rfl | rfl | rfl | rfl | rfl | rfl | rfl | rfl | rfl | rfl | rfl | rfl | rfl | rfl | rfl | rfl | rfl <;> simp [V.ids, nilS] at hi ⊢ <;> omega)
  have h6 := Weak.nilc1 k 16 (sl := sl) (P := P) (bs := bs) (refs := [k + 1, k + 2, k + 3, k + 4, k + 5, k + 6]) (row := [.own (k + 1) 1 0 0 0, .own (k + 2) 1 0 0 0, nilS, nilS, .own (k + 3) 1 0 0 0, .own (k + 4) 1 0 0 0, .own (k + 5) 1 0 0 0, .own (k + 6) 1 0 0 0, nilS, nilS, nilS, nilS, nilS, nilS, nilS, nilS, nilS, nilS, nilS, nilS, nilS, nilS, nilS, nilS, nilS, nilS, nilS, nilS]) (E := [.mem false [] [], .mem false [] [], .mem false [] [], .mem false [] [], .mem false [] [], .mem false [] []]) hk rfl (by
    intro j' y hy i hi
    have hm := List.mem_of_getElem? hy
    simp only [List.mem_cons, List.not_mem_nil, or_false] at hm
    rcases hm with rfl | rfl | rfl | rfl | rfl | rfl | rfl | rfl | rfl | rfl | rfl | rfl | rfl | rfl | rfl | rfl | rfl | rfl | rfl | rfl | rfl | rfl | rfl | rfl | rfl | rfl | rfl | rfl <;> simp [V.ids, nilS] at hi ⊢ <;> omega)
  have h7 := Weak.nilc1 k 17 (sl := sl) (P := P) (bs := bs) (refs := [k + 1, k + 2, k + 3, k + 4, k + 5, k + 6, k + 7]) (row := [.own (k + 1) 1 0 0 0, .own (k + 2) 1 0 0 0, nilS, nilS, .own (k + 3) 1 0 0 0, .own (k + 4) 1 0 0 0, .own (k + 5) 1 0 0 0, .own (k + 6) 1 0 0 0, nilS, nilS, nilS, nilS, nilS, nilS, nilS, nilS, .own (k + 7) 1 0 0 0, nilS, nilS, nilS, nilS, nilS, nilS, nilS, nilS, nilS, nilS, nilS]) (E := [.mem false [] [], .mem false [] [], .mem false [] [], .mem false [] [], .mem false [] [], .mem false [] [], .mem false [] []]) hk rfl (by
    intro j' y hy i hi
    have hm := List.mem_of_getElem? hy
    simp only [List.mem_cons, List.not_mem_nil, or_false] at hm
    rcases hm with rfl | rfl | rfl | rfl | rfl | rfl | rfl | rfl | rfl | rfl | rfl | rfl | rfl | rfl | rfl | rfl | rfl | rfl | rfl | rfl | rfl | rfl | rfl | rfl | rfl | rfl | rfl | rfl <;> simp [V.ids, nilS] at hi ⊢ <;> omega)
  have h8 := Weak.nilc1 k 18 (sl := sl) (P := P) (bs := bs) (refs := [k + 1, k + 2, k + 3, k + 4, k + 5, k + 6, k + 7, k + 8]) (row := [.own (k + 1) 1 0 0 0, .own (k + 2) 1 0 0 0, nilS, nilS, .own (k + 3) 1 0 0 0, .own (k + 4) 1 0 0 0, .own (k + 5) 1 0 0 0, .own (k + 6) 1 0 0 0, nilS, nilS, nilS, nilS, nilS, nilS, nilS, nilS, .own (k + 7) 1 0 0 0, .own (k + 8) 1 0 0 0, nilS, nilS, nilS, nilS, nilS, nilS, nilS, nilS, nilS, nilS]) (E := [.mem false [] [], .mem false [] [], .mem false [] [], .mem false [] [], .mem false [] [], .mem false [] [], .mem false [] [], .mem false [] []]) hk rfl (by
    intro j' y hy i hi
    have hm := List.mem_of_getElem? hy
    simp only [List.mem_cons, List.not_mem_nil, or_false] at hm
    rcases hm with rfl | rfl | rfl | rfl | rfl | rfl | rfl | rfl | rfl | rfl | rfl | rfl | rfl | rfl | rfl | rfl | rfl | rfl | rfl | rfl | rfl | rfl | rfl | rfl | rfl | rfl | rfl | rfl <;> simp [V.ids, nilS] at hi ⊢ <;> omega)
  have h9 := Weak.nilc1 k 19 (sl := sl) (P := P) (bs := bs) (refs := [k + 1, k + 2, k + 3, k + 4, k + 5, k + 6, k + 7, k + 8, k + 9]) (row := [.own (k + 1) 1 0 0 0, .own (k + 2) 1 0 0 0, nilS, nilS, .own (k + 3) 1 0 0 0, .own (k + 4) 1 0 0 0, .own (k + 5) 1 0 0 0, .own (k + 6) 1 0 0 0, nilS, nilS, nilS, nilS, nilS, nilS, nilS, nilS, .own (k + 7) 1 0 0 0, .own (k + 8) 1 0 0 0, .own (k + 9) 1 0 0 0, nilS, nilS, nilS, nilS, nilS, nilS, nilS, nilS, nilS]) (E := [.mem false [] [], .mem false [] [], .mem false [] [], .mem false [] [], .mem false [] [], .mem false [] [], .mem false [] [], .mem false [] [], .mem false [] []]) hk rfl (by
    intro j' y hy i hi
    have hm := List.mem_of_getElem? hy
    simp only [List.mem_cons, List.not_mem_nil, or_false] at hm
    rcases hm with rfl | rfl | rfl | rfl | rfl | rfl | rfl | rfl | rfl | rfl | rfl | rfl | rfl | rfl | rfl | rfl | rfl | rfl | rfl | rfl | rfl | rfl | rfl | rfl | rfl | rfl | rfl | rfl <;> simp [V.ids, nilS] at hi ⊢ <;> omega)
  exact Weak.trans h0 (Weak.trans h1 (Weak.trans h2 (Weak.trans h3 (Weak.trans h4 (Weak.trans h5 (Weak.trans h6 (Weak.trans h7 (Weak.trans h8 (h9)))))))))
abbrev s11_1 : List Nat := [1, 2, 3, 4, 5, 6, 7, 8, 9, 10, 11]
section
variable (p0 : O) (s s' : RmS) (F : Heap)
theorem zkU : clos (p0 :: (Rmk 1 s ++ F)) 8 [1] = s11_1 := by simp [clos, addAll, O.refs, Rmk]
theorem zmH : OkSel (p0 :: (Rmk 1 s ++ F)) s11_1 := by
  simp [OkSel, O.refs, Rmk]
theorem zmG : (Rmk 1 s).map (O.ren (idx s11_1)) = Rm s := by
  simp [Rmk, Rm, O.ren, rmRowK, rmRow, V.renL, V.ren, ri, Function.comp_def, nilS, idx, List.idxOf_cons]
theorem zmI : sub (p0 :: (Rmk 1 s ++ F)) s11_1 = Rm s := zmG s
theorem zkT (n : Nat) : (Rm s).map (O.ren (back s11_1 n)) = Rmk 1 s := by
  simp [Rmk, Rm, O.ren, rmRowK, rmRow, V.renL, V.ren, ri, Function.comp_def, nilS, back]
theorem zjq : merge (p0 :: (Rmk 1 s ++ F)) s11_1 (Rm s') = (p0 :: (Rmk 1 s' ++ F)) := by
  have h1 : (Rm s').take 11 = Rm s' := rfl
  have h2 : (Rm s').drop 11 = [] := rfl
  have h3 : s11_1.length = 11 := rfl
  simp only [merge, h3, h1, h2, zkT, List.map_nil, List.append_nil]
  rfl
end
theorem gcallR1 {P : Program} {f : FuncId} {d : Option Nat} {xs : List Operand} {k : St → Prop} {st : St} {s : RmS} {p0 : O} {F : Heap} {zs : List V} {Q : V → RmS → Prop} (hc : DC P f zs (Rm s) fun r H => (∀ g, r.ren g = r) ∧ ∃ s', Q r s' ∧ H = Rm s') (hh : st.hp = (p0 :: (Rmk 1 s ++ F)))
    (hi : addAll [] (V.idsL (xs.map st.ev)) = [1]) (ha : V.renL (idx s11_1) (xs.map st.ev) = zs) (hf : okFunc P f = true)
    (hk : ∀ r s', Q r s' → k ({ st with hp := (p0 :: (Rmk 1 s' ++ F)) }.put d r)) : IvcF P (.callm d (.func f) xs) k st := by
  refine zgo hc s11_1 (by rw [hi, hh]; exact zkU p0 s F) (by rw [hh]; exact zmH p0 s F) ha (by rw [hh]; exact zmI p0 s F) hf ?_
  rintro r H ⟨hr, s', hq, rfl⟩
  rw [hr, hh, zjq]
  exact hk r s' hq
section
variable {s : RmS} {F : Heap} {p0 : O}
@[simp] theorem znm : List.take 12 (p0 :: (Rmk 1 s ++ F)) = p0 :: Rmk 1 s := rfl
@[simp] theorem znn (a : O) : List.take 13 (p0 :: (Rmk 1 s ++ a :: F)) = p0 :: (Rmk 1 s ++ [a]) := rfl
@[simp] theorem znG : (Rmk 1 s).map (limO 12) = Rmk 1 s := rfl
@[simp] theorem znH : (Rmk 1 s).map (limO 13) = Rmk 1 s := rfl
@[simp] theorem zpA : (Rmk 1 s).length = 11 := rfl
end
section
variable (p0 p1 : O) (s s' : RmS) (F : Heap)
end
section
variable {s : RmS} {F : Heap} {p0 p1 : O}
@[simp] theorem zno : List.take 13 (p0 :: p1 :: (Rmk 2 s ++ F)) = p0 :: p1 :: Rmk 2 s := rfl
@[simp] theorem znp (a : O) : List.take 14 (p0 :: p1 :: (Rmk 2 s ++ a :: F)) = p0 :: p1 :: (Rmk 2 s ++ [a]) := rfl
@[simp] theorem znI : (Rmk 2 s).map (limO 13) = Rmk 2 s := rfl
@[simp] theorem znJ : (Rmk 2 s).map (limO 14) = Rmk 2 s := rfl
@[simp] theorem zpB : (Rmk 2 s).length = 11 := rfl
end
section
variable {k : Nat} {s : RmS} {F : Heap}
@[simp] theorem zqg (a : O) : (Rmk k s ++ (a :: F))[11]? = some a := rfl
@[simp] theorem zpC (a : O) (h) : (Rmk k s ++ (a :: F))[11]'h = a := rfl
@[simp] theorem znK (a x : O) : (Rmk k s ++ (a :: F)).set 11 x = Rmk k s ++ (x :: F) := rfl
@[simp] theorem zlR (a : O) : List.take 12 (Rmk k s ++ [a]) = Rmk k s ++ [a] := rfl
@[simp] theorem zlS (a y0 : O) : List.take 12 (Rmk k s ++ [a, y0]) = Rmk k s ++ [a] := rfl
@[simp] theorem zlT (a y0 y1 : O) : List.take 12 (Rmk k s ++ [a, y0, y1]) = Rmk k s ++ [a] := rfl
@[simp] theorem zqh (a b : O) : (Rmk k s ++ (a :: b :: F))[12]? = some b := rfl
@[simp] theorem zpD (a b : O) (h) : (Rmk k s ++ (a :: b :: F))[12]'h = b := rfl
@[simp] theorem znL (a b x : O) : (Rmk k s ++ (a :: b :: F)).set 12 x = Rmk k s ++ (a :: x :: F) := rfl
@[simp] theorem zlU (a b : O) : List.take 13 (Rmk k s ++ [a, b]) = Rmk k s ++ [a, b] := rfl
@[simp] theorem zlV (a b y0 : O) : List.take 13 (Rmk k s ++ [a, b, y0]) = Rmk k s ++ [a, b] := rfl
@[simp] theorem zlW (a b y0 y1 : O) : List.take 13 (Rmk k s ++ [a, b, y0, y1]) = Rmk k s ++ [a, b] := rfl
@[simp] theorem zqi (a b c : O) : (Rmk k s ++ (a :: b :: c :: F))[13]? = some c := rfl
@[simp] theorem zpE (a b c : O) (h) : (Rmk k s ++ (a :: b :: c :: F))[13]'h = c := rfl
@[simp] theorem znM (a b c x : O) : (Rmk k s ++ (a :: b :: c :: F)).set 13 x = Rmk k s ++ (a :: b :: x :: F) := rfl
@[simp] theorem zlX (a b c : O) : List.take 14 (Rmk k s ++ [a, b, c]) = Rmk k s ++ [a, b, c] := rfl
@[simp] theorem zlY (a b c y0 : O) : List.take 14 (Rmk k s ++ [a, b, c, y0]) = Rmk k s ++ [a, b, c] := rfl
@[simp] theorem zlZ (a b c y0 y1 : O) : List.take 14 (Rmk k s ++ [a, b, c, y0, y1]) = Rmk k s ++ [a, b, c] := rfl
end
end Go.Abs.G

namespace Go.Abs.G
open Go.Proofs
theorem FewM.modLe {m : Model} (h : FewM m) : ModLe m := ⟨h.vars, h.cons, fun c hc => ⟨(h.con c hc).terms, (h.con c hc).xs, (h.con c hc).table, (h.con c hc).rows, (h.con c hc).row⟩, h.goal⟩
theorem FewM.modLen {m : Model} (h : FewM m) : ModLen m := by
  have hM : (20000 : Nat) ≤ maxLen := by decide
  exact ⟨Nat.le_trans h.vars hM, Nat.le_trans h.cons hM, fun c hc => ⟨Nat.le_trans (h.con c hc).terms hM, Nat.le_trans (h.con c hc).xs hM, Nat.le_trans (h.con c hc).table hM, Nat.le_trans (h.con c hc).rows hM, fun r hr => Nat.le_trans ((h.con c hc).row r hr) hM⟩, Nat.le_trans h.goal hM⟩
theorem modelTells_spec (m : Model) (vs : List Int) (most : Int) (hzm : zModel m) (hzv : zInts vs) (h64 : I64 most) : Pf Tryz.prog za5.id [.agg m.cells, vInts vs, V.i most] (.bool true) := by
  have hok := hzm.1
  have hvl := hzv.1.1
  refine DC.of za5.ok (by simp) ?_
  unfold za5.ir
  have hcl : m.cells.length = 4 := rfl
  obtain ⟨A, hA⟩ : ∃ A, A = vInts vs := ⟨_, rfl⟩
  have hAi : A.ids = [] := by rw [hA]; rfl
  obtain ⟨p0, hp0⟩ : ∃ p0, p0 = O.mem false [] [m.cells] := ⟨_, rfl⟩
  have hpr : p0.refs = [] := by rw [hp0]; rfl
  rw [← hA]
  have hfew := zjO m vs hok hvl
  rw [← hA] at hfew
  refine zac (At [(1, A), (2, V.i most), (3, .ptr 0 1 0 0)] [p0]) (by simp -dsimp [At, hp0]) ?_
  try clear h
  rintro ⟨sl, hp, bs⟩ ⟨rfl, h⟩
  simp only [zaa, zab, zad] at h
  refine zac (fun st => FewM m ∧ vs.length ≤ 20000 ∧ At [(1, A), (2, V.i most), (3, .ptr 0 1 0 0)] [p0] st) ?_ ?_
  · simp -dsimp [h, hp0, hA, vInts]
    refine zjQ hfew (by simp -dsimp [h, hA, vInts]) (by simp -dsimp [h, hAi, hA, vInts]) ?_
    rintro r ⟨b, rfl, hb⟩
    cases b
    · simp -dsimp [h, za5.rs]
    · have := hb rfl
      simp -dsimp [h, At, hA, hp0, this.1, this.2, vInts]
  try clear h
  rintro ⟨sl, hp, bs⟩ ⟨hF, hvs, rfl, h⟩
  simp only [zaa, zab, zad] at h
  refine zac (At [(1, A), (2, V.i most), (3, .ptr 0 1 0 0), (7, .ptr 1 1 0 0)] (p0 :: (Rmk 1 rm0 ++ []))) ?_ ?_
  · simp -dsimp [h]
    refine ⟨_, Weak.room 1 (P := [p0]) rfl, ?_⟩
    simp -dsimp [h, At]
    done
  try clear h
  rintro ⟨sl, hp, bs⟩ ⟨rfl, h⟩
  simp only [zaa, zab, zad] at h
  obtain ⟨s, hs⟩ : ∃ s, s = (rm0.lModel m).lInts vs 40 := ⟨_, rfl⟩
  have l1 := zmz.lModel hF.modLe (by omega)
  have l2 := l1.lInts (l := vs) (room := 40) (by omega) (by omega) (by omega)
  rw [← hs] at l2
  refine zac (At [(1, A), (2, V.i most), (3, .ptr 0 1 0 0), (7, .ptr 1 1 0 0), (8, .ptr 12 1 0 0), (9, A)] (p0 :: (Rmk 1 s ++ [p0]))) ?_ ?_
  · simp -dsimp [h, hp0, hcl]
    refine gcallR1 (ModelS rm0 m 0 hF.modLe zmz (by omega)) rfl ?_ ?_ (by simp) ?_
    · simp -dsimp [h, V.idsL, V.ids, addAll]
    · simp -dsimp [h, V.renL, V.ren, idx]
    · rintro r s' ⟨rfl, rfl⟩
      simp -dsimp [h, hp0, hcl]
      refine gcallR1 (IntsS _ vs 401000000 (by omega) (by simpa using l1) (by omega)) rfl ?_ ?_ (by simp) ?_
      · simp -dsimp [h, V.idsL, V.ids, addAll, hAi]
      · simp -dsimp [h, V.renL, V.ren, idx, hA, vInts]
      · rintro r s' ⟨rfl, rfl⟩
        simp -dsimp [h, hp0, hcl, At, hA, hs]
        try rfl
  try clear h
  rintro ⟨sl, hp, bs⟩ ⟨rfl, h⟩
  simp only [zaa, zab, zad] at h
  have kc := zfr m hok
  have kp := zg5 m most hok h64
  obtain ⟨ca, hca⟩ : ∃ a, a = (checkB m).1 := ⟨_, rfl⟩
  obtain ⟨ce, hce⟩ : ∃ a, a = (checkB m).2 := ⟨_, rfl⟩
  obtain ⟨pa, hpa⟩ : ∃ a, a = (prodB m most).1 := ⟨_, rfl⟩
  obtain ⟨pe, hpe⟩ : ∃ a, a = (prodB m most).2 := ⟨_, rfl⟩
  have kc' := zgi m hok
  have kp' := zhH m most hok h64
  rw [← hca, ← hce] at kc kc'
  rw [← hpa, ← hpe] at kp kp'
  have kf := zh5 m hok
  have kf' := zi3 m hok
  have kg := ziS m hok
  have kg' := zjA m hok
  obtain ⟨fl, hfl⟩ : ∃ a, a = endsB m true := ⟨_, rfl⟩
  obtain ⟨ce', hce'⟩ : ∃ a, a = endsB m false := ⟨_, rfl⟩
  rw [← hfl] at kf kf'
  rw [← hce'] at kg kg'
  have ks := zgd m vs hok hvl
  have ks' := zhc m vs hok hvl (fun _ _ => trivial)
  have kw := ziv m vs hok hvl
  have kw' := zjn m vs hok hvl
  obtain ⟨so, hso⟩ : ∃ a, a = solB m vs := ⟨_, rfl⟩
  obtain ⟨wo, hwo⟩ : ∃ a, a = worthB m vs := ⟨_, rfl⟩
  rw [← hso, ← hA] at ks ks'
  rw [← hwo, ← hA] at kw kw'
  have ksame := zji m hF.modLen
  have kint := zf9 vs hvl
  rw [← hA] at kint
  have hld : ∀ E : Heap, (p0 :: (Rmk 1 s ++ p0 :: E))[12]? = some p0 := fun E => rfl
  refine zac (At [(1, A), (2, V.i most), (3, .ptr 0 1 0 0), (7, .ptr 1 1 0 0), (8, .ptr 12 1 0 0), (9, A), (10, V.i ca), (11, V.i ce)] (p0 :: (Rmk 1 s ++ [p0]))) ?_ ?_
  · simp -dsimp [h, hp0, hcl]
    refine gcall (kc) (by simp -dsimp [h, hp0, hcl, At]) (by simp -dsimp [h, hp0, hcl, At]) ?_
    simp -dsimp [h, hp0, hcl, At]
  try clear h
  rintro ⟨sl, hp, bs⟩ ⟨rfl, h⟩
  simp only [zaa, zab, zad] at h
  refine zac (At [(1, A), (2, V.i most), (3, .ptr 0 1 0 0), (7, .ptr 1 1 0 0), (8, .ptr 12 1 0 0), (9, A), (10, V.i ca), (11, V.i ce), (12, V.i pa), (13, .bool pe)] (p0 :: (Rmk 1 s ++ [p0]))) ?_ ?_
  · simp -dsimp [h, hp0, hcl]
    refine gcall (kp) (by simp -dsimp [h, hp0, hcl, At]) (by simp -dsimp [h, hp0, hcl, At]) ?_
    simp -dsimp [h, hp0, hcl, At]
  try clear h
  rintro ⟨sl, hp, bs⟩ ⟨rfl, h⟩
  simp only [zaa, zab, zad] at h
  refine zac (At [(1, A), (3, .ptr 0 1 0 0), (7, .ptr 1 1 0 0), (8, .ptr 12 1 0 0), (9, A)] (p0 :: (Rmk 1 s ++ [p0]))) ?_ ?_
  · refine zac (At [(1, A), (2, V.i most), (3, .ptr 0 1 0 0), (7, .ptr 1 1 0 0), (8, .ptr 12 1 0 0), (9, A), (10, V.i ca), (11, V.i ce), (12, V.i pa), (13, .bool pe), (14, V.i 0)] (p0 :: (Rmk 1 s ++ [p0]))) (by simp -dsimp [h, At]) ?_
    try clear h
    rintro ⟨sl, hp, bs⟩ ⟨rfl, h⟩
    simp only [zaa, zab, zad] at h
    refine zag (zbY 13 (by simp) 2 (fun i st => At [(1, A), (2, V.i most), (3, .ptr 0 1 0 0), (7, .ptr 1 1 0 0), (8, .ptr 12 1 0 0), (9, A), (10, V.i ca), (11, V.i ce), (12, V.i pa), (13, .bool pe), (14, V.i i)] (p0 :: (Rmk 1 s ++ [p0])) st) ⟨rfl, by simpa using h⟩ ?_)
    clear h
    rintro i ⟨sl, hp, bs⟩ hi ⟨rfl, h⟩
    simp only [zaa, zab] at h
    unfold za5.b0
    by_cases hil : i < 2
    · have hil' : (i : Int) < 2 := by omega
      have hw : IntKind.i64.wrap ((i : Int) + 1) = ((i + 1 : Nat) : Int) := by rw [wrap64] <;> omega
      refine zac (At [(1, A), (2, V.i most), (3, .ptr 0 1 0 0), (7, .ptr 1 1 0 0), (8, .ptr 12 1 0 0), (9, A), (10, V.i ca), (11, V.i ce), (12, V.i pa), (13, .bool pe), (14, V.i i)] (p0 :: (Rmk 1 s ++ [p0]))) (by simp -dsimp [h, At, hil, hil']) ?_
      try clear h
      rintro ⟨sl, hp, bs⟩ ⟨rfl, h⟩
      simp only [zaa, zab, zad] at h
      refine zac (At [(1, A), (2, V.i most), (3, .ptr 0 1 0 0), (7, .ptr 1 1 0 0), (8, .ptr 12 1 0 0), (9, A), (10, V.i ca), (11, V.i ce), (12, V.i pa), (13, .bool pe), (14, V.i i)] (p0 :: (Rmk 1 s ++ [p0]))) ?_ ?_
      · refine zag ?_
        refine zac (At [(1, A), (2, V.i most), (3, .ptr 0 1 0 0), (7, .ptr 1 1 0 0), (8, .ptr 12 1 0 0), (9, A), (10, V.i ca), (11, V.i ce), (12, V.i pa), (13, .bool pe), (14, V.i i), (15, V.i ca), (16, V.i ce)] (p0 :: (Rmk 1 s ++ [p0]))) ?_ ?_
        · simp -dsimp [h, hp0, hcl]
          refine gcall (kc') (by simp -dsimp [h, hp0, hcl, At]) (by simp -dsimp [h, hp0, hcl, At]) ?_
          simp -dsimp [h, hp0, hcl, At]
        try clear h
        rintro ⟨sl, hp, bs⟩ ⟨rfl, h⟩
        simp only [zaa, zab, zad] at h
        refine zac (At [(1, A), (2, V.i most), (3, .ptr 0 1 0 0), (7, .ptr 1 1 0 0), (8, .ptr 12 1 0 0), (9, A), (10, V.i ca), (11, V.i ce), (12, V.i pa), (13, .bool pe), (14, V.i i), (15, V.i ca), (16, V.i ce), (17, V.i pa), (18, .bool pe)] (p0 :: (Rmk 1 s ++ [p0]))) ?_ ?_
        · simp -dsimp [h, hp0, hcl]
          refine gcall (kp') (by simp -dsimp [h, hp0, hcl, At]) (by simp -dsimp [h, hp0, hcl, At]) ?_
          simp -dsimp [h, hp0, hcl, At]
        try clear h
        rintro ⟨sl, hp, bs⟩ ⟨rfl, h⟩
        simp only [zaa, zab, zad] at h
        refine zac (At [(1, A), (2, V.i most), (3, .ptr 0 1 0 0), (7, .ptr 1 1 0 0), (8, .ptr 12 1 0 0), (9, A), (10, V.i ca), (11, V.i ce), (12, V.i pa), (13, .bool pe), (14, V.i i)] (p0 :: (Rmk 1 s ++ [p0]))) ?_ ?_
        · refine zac (At [(1, A), (2, V.i most), (3, .ptr 0 1 0 0), (7, .ptr 1 1 0 0), (8, .ptr 12 1 0 0), (9, A), (10, V.i ca), (11, V.i ce), (12, V.i pa), (13, .bool pe), (14, V.i i), (88, .bool false)] (p0 :: (Rmk 1 s ++ [p0]))) ?_ ?_
          · refine zeQ (zcT 18 (At [(1, A), (2, V.i most), (3, .ptr 0 1 0 0), (7, .ptr 1 1 0 0), (8, .ptr 12 1 0 0), (9, A), (10, V.i ca), (11, V.i ce), (12, V.i pa), (13, .bool pe), (14, V.i i), (74, .bool false)] (p0 :: (Rmk 1 s ++ [p0]))) ?_ ?_)
            · cases pe <;> simp -dsimp [h, At]
            try clear h
            rintro ⟨sl, hp, bs⟩ ⟨rfl, h⟩
            simp only [zaa, zab, zad] at h
            refine zcT 7 (At [(1, A), (2, V.i most), (3, .ptr 0 1 0 0), (7, .ptr 1 1 0 0), (8, .ptr 12 1 0 0), (9, A), (10, V.i ca), (11, V.i ce), (12, V.i pa), (13, .bool pe), (14, V.i i), (81, .bool false)] (p0 :: (Rmk 1 s ++ [p0]))) ?_ ?_
            · simp -dsimp [h, hp0, hcl]
              refine gcall (kf') (by simp -dsimp [h, hp0, hcl]) (by simp -dsimp [h, hp0, hcl]) ?_
              simp -dsimp [h, hp0, hcl]
              refine gcall (kf) (by simp -dsimp [h, hp0, hcl, At]) (by simp -dsimp [h, hp0, hcl, At]) ?_
              simp -dsimp [h, hp0, hcl, At]
            try clear h
            rintro ⟨sl, hp, bs⟩ ⟨rfl, h⟩
            simp only [zaa, zab, zad] at h
            simp -dsimp [h, hp0, hcl]
            refine gcall (kg') (by simp -dsimp [h, hp0, hcl]) (by simp -dsimp [h, hp0, hcl]) ?_
            simp -dsimp [h, hp0, hcl]
            refine gcall (kg) (by simp -dsimp [h, hp0, hcl, At]) (by simp -dsimp [h, hp0, hcl, At]) ?_
            simp -dsimp [h, hp0, hcl, At]
          try clear h
          rintro ⟨sl, hp, bs⟩ ⟨rfl, h⟩
          simp only [zaa, zab, zad] at h
          simp -dsimp [h, At]
        try clear h
        rintro ⟨sl, hp, bs⟩ ⟨rfl, h⟩
        simp only [zaa, zab, zad] at h
        simp -dsimp [h, hp0, hcl]
        refine gcall (ks') (by simp -dsimp [h, hp0, hcl, hAi]) (by simp -dsimp [h, hp0, hcl, hAi]) ?_
        simp -dsimp [h, hp0, hcl, hAi]
        refine gcall (ks) (by simp -dsimp [h, hp0, hcl, hAi]) (by simp -dsimp [h, hp0, hcl, hAi]) ?_
        simp -dsimp [h, hp0, hcl, hAi]
        refine gcall (kw') (by simp -dsimp [h, hp0, hcl, hAi]) (by simp -dsimp [h, hp0, hcl, hAi]) ?_
        simp -dsimp [h, hp0, hcl, hAi]
        refine gcall (kw) (by simp -dsimp [h, hp0, hcl, hAi, At]) (by simp -dsimp [h, hp0, hcl, hAi, At]) ?_
        simp -dsimp [h, hp0, hcl, hAi, At]
      try clear h
      rintro ⟨sl, hp, bs⟩ ⟨rfl, h⟩
      simp only [zaa, zab, zad] at h
      simp -dsimp [h, At, hw, hil, hpr, hAi]
    · have hil' : ¬ (i : Int) < 2 := by omega
      simp -dsimp [h, hil, hil', At]
  try clear h
  rintro ⟨sl, hp, bs⟩ ⟨rfl, h⟩
  simp only [zaa, zab, zad] at h
  simp -dsimp [h, hp0, hcl]
  refine gcall (ksame) (by simp -dsimp [h, hp0, hcl]) (by simp -dsimp [h, hp0, hcl]) ?_
  simp -dsimp [h, hp0, hcl]
  refine gcall (kint) (by simp -dsimp [h, hp0, hcl, hAi]) (by simp -dsimp [h, hp0, hcl, hAi]) ?_
  simp -dsimp [h, hp0, hcl, hAi]
  refine gcallR1 (zjo s l2.ok) rfl ?_ ?_ (by simp) ?_
  · simp -dsimp [h, V.idsL, V.ids, addAll, hAi]
  · simp -dsimp [h, V.renL, V.ren, idx]
  · rintro r s' ⟨rfl, rfl⟩
    simp -dsimp [h, za5.rs]
end Go.Abs.G
