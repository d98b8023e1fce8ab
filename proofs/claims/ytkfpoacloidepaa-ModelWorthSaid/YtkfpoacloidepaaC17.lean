import Derived.Test.YtkfpoacloidepaaC16
import Derived.Test.YtkfpoacloidepaaC1
set_option linter.all false
namespace Go.Abs.G
open Go.Proofs
set_option linter.unusedVariables false
set_option linter.unusedSimpArgs false

theorem insideAt_bound {any : List Int} {i : Nat} {v : Var} (h : VarOk v) : v.lo ≤ insideAt any i v ∧ insideAt any i v ≤ v.hi := by
  have h1 := h.le
  unfold insideAt
  split
  · have := placeI_bound (any.getD i 0) (n := v.hi - v.lo + 1) (by omega)
    omega
  · omega

theorem inside_within {m : Model} (hR : Right m) (any : List Int) : Within m (insideL m any) := by
  refine ⟨by simp [insideL], fun i v hv => ?_⟩
  have h := insideAt_bound (any := any) (i := i) (VarOk.of (hR.var i v hv))
  have e : (insideL m any).getD i 0 = insideAt any i v := by simp [insideL, List.getD, hv]
  rw [e]; exact h

theorem inside_dp (m : Model) (any : List Int) (hm' : okModel m) (hR : Right m) (ha : any.length ≤ maxLen) : Pf Try.prog hallmarklaw4_inside.id [.agg m.cells, vInts any] (vInts (insideL m any)) := by
  refine DC.mono (inside_spec m any hm' hR ha) fun r H ⟨o1, o2, hr, hH⟩ => ?_
  subst hr hH
  have hl : (insideL m any).length = m.vars.length := by simp [insideL]
  simp [hl, vInts]
  exact List.take_of_length_le (by simp [hl])

theorem set_rows (L : List Int) (n : Nat) (a : Int) : (L.map fun n => [V.i n]).set n [V.i a] = (L.set n a).map fun n => [V.i n] := by
  rw [List.map_set]

def wantL (m : Model) (least : Bool) (t : Term) : Int := if decide (0 < t.c) = least then (varAt m t.x).lo else (varAt m t.x).hi

/-- What stands behind i rounds. -/
structure Round (m : Model) (i : Nat) (L T : List Int) : Prop where
  l : Within m L
  t : Within m T
  low : ∀ (j : Nat) (t : Term), j < i → m.goal[j]? = some t → atI L t.x = wantL m true t
  top : ∀ (j : Nat) (t : Term), j < i → m.goal[j]? = some t → atI T t.x = wantL m false t

theorem Within.set {m : Model} {L : List Int} (h : Within m L) {n : Nat} {a : Int} {v : Var} (hv : m.vars[n]? = some v) (ha : v.lo ≤ a ∧ a ≤ v.hi) : Within m (L.set n a) := by
  refine ⟨by simp [h.1], fun i w hw => ?_⟩
  by_cases hi : n = i
  · subst hi
    rw [hv] at hw; injection hw with hw; subst hw
    have hlt : n < L.length := by rw [h.1]; exact lt_of_get hv
    simp [List.getD, hlt]; exact ha
  · have := h.2 i w hw
    simp only [List.getD, List.getElem?_set_ne hi] at this ⊢
    exact this

theorem Round.next {m : Model} (hR : Right m) {i : Nat} {L T : List Int} (h : Round m i L T) {t : Term} (ht : m.goal[i]? = some t) (hd : ∀ (k : Nat) (u : Term), k < i → m.goal[k]? = some u → u.x ≠ t.x) {a b : Int}
    (ha : a = wantL m true t) (hb : b = wantL m false t) : Round m (i + 1) (L.set t.x.toNat a) (T.set t.x.toNat b) := by
  have hok := hR.terms.1 t (List.mem_of_getElem? ht)
  obtain ⟨hv, hvo⟩ := hR.varAt hok.x.1 hok.x.2
  have hle := hvo.le
  have hab : (varAt m t.x).lo ≤ a ∧ a ≤ (varAt m t.x).hi := by rw [ha]; unfold wantL; split <;> omega
  have hbb : (varAt m t.x).lo ≤ b ∧ b ≤ (varAt m t.x).hi := by rw [hb]; unfold wantL; split <;> omega
  have key : ∀ (M : List Int) (c : Int) (least : Bool), Within m M → c = wantL m least t → (∀ (j : Nat) (u : Term), j < i → m.goal[j]? = some u → atI M u.x = wantL m least u) →
      ∀ (j : Nat) (u : Term), j < i + 1 → m.goal[j]? = some u → atI (M.set t.x.toNat c) u.x = wantL m least u := by
    intro M c least hM hc hold j u hj hu
    by_cases hji : j = i
    · subst hji
      rw [ht] at hu; injection hu with hu; subst hu
      have hlt : t.x.toNat < M.length := by rw [hM.1]; have := hok.x; omega
      simp [atI, List.getD, hlt, hc]
    · have hj' : j < i := by omega
      have huo := hR.terms.1 u (List.mem_of_getElem? hu)
      have hne := hd j u hj' hu
      have hne' : t.x.toNat ≠ u.x.toNat := by have := hok.x; have := huo.x; omega
      rw [← hold j u hj' hu]
      simp only [atI, List.getD, List.getElem?_set_ne hne']
  exact ⟨Within.set h.l hv hab, Within.set h.t hv hbb, key L a true h.l ha h.low, key T b false h.t hb h.top⟩

theorem Round.low_worth {m : Model} (hr : rightB m = true) {L T : List Int} (h : Round m m.goal.length L T) : worthB m L = endsB m true ∧ worthB m T = endsB m false := by
  constructor
  · refine worth_ends hr h.l true fun t ht => ?_
    obtain ⟨j, hj⟩ := List.getElem?_of_mem ht
    exact h.low j t (lt_of_get hj) hj
  · refine worth_ends hr h.t false fun t ht => ?_
    obtain ⟨j, hj⟩ := List.getElem?_of_mem ht
    exact h.top j t (lt_of_get hj) hj

theorem worth_law (m : Model) (any : List Int) (hm' : okModel m) (ha : okInts any) : Pf Try.prog hallmarklaw4_ModelWorth.id [.agg m.cells, vInts any] (.bool true) := by
  have hm : (maxLen : Int) ≤ 9223372036854775807 := by decide
  refine DC.of hallmarklaw4_ModelWorth.ok (by simp) ?_
  unfold hallmarklaw4_ModelWorth.ir
  refine vc_cut (fun s => gt s.sl 1 = vInts any ∧ gt s.sl 2 = .ptr 0 1 0 0 ∧ s.hp = [.mem false [] [m.cells]]) (by simp [Model.cells, vVars, vCons, vTerms]) ?_
  rintro ⟨sl, hp, bs⟩ ⟨h1, h2, rfl⟩
  refine vc_cut (fun s => gt s.sl 1 = vInts any ∧ gt s.sl 2 = .ptr 0 1 0 0 ∧ s.hp = [.mem false [] [m.cells]]) ?_ ?_
  · simp -dsimp [↓call_f, h1, h2, Model.cells, vVars, vCons, vTerms, vInts]
    refine DP.mono (few_spec m any hm' ha.1) fun r ⟨b, hr⟩ => ?_
    subst hr
    cases b <;> simp -dsimp [h1, h2, Model.cells, vVars, vCons, vTerms, vInts, hallmarklaw4_ModelWorth.rs]
  rintro ⟨sl, hp, bs⟩ ⟨h1, h2, rfl⟩
  refine vc_cut (fun s => gt s.sl 1 = vInts any ∧ gt s.sl 2 = .ptr 0 1 0 0 ∧ s.hp = [.mem false [] [m.cells]]) ?_ ?_
  · simp -dsimp [↓call_f, h1, h2]
    refine known_spec.use ?_
    simp -dsimp [h1, h2]
  rintro ⟨sl, hp, bs⟩ ⟨h1, h2, rfl⟩
  refine vc_cut (fun s => gt s.sl 1 = vInts any ∧ gt s.sl 2 = .ptr 0 1 0 0 ∧ s.hp = [.mem false [] [m.cells]] ∧ rightB m = true) ?_ ?_
  · simp -dsimp [↓call_f, h1, h2, Model.cells, vVars, vCons, vTerms, vInts]
    refine (lright_spec m hm').use ?_
    cases hr : rightB m
    · simp -dsimp [hallmarklaw4_ModelWorth.rs]
    · cases hg : m.hasGoal <;> simp -dsimp [h1, h2, Model.cells, vVars, vCons, vTerms, vInts, hallmarklaw4_ModelWorth.rs, hg]
  rintro ⟨sl, hp, bs⟩ ⟨h1, h2, rfl, hr⟩
  have hR := right_iff.1 hr
  have hw1 := inside_within hR any
  refine vc_cut (fun s => gt s.sl 2 = .ptr 0 1 0 0 ∧ gt s.sl 5 = V.i (worthB m (insideL m any)) ∧ s.hp = [.mem false [] [m.cells]]) ?_ ?_
  · simp -dsimp [↓call_f, ↓callb_fn, h1, h2, Model.cells, vVars, vCons, vTerms, vInts]
    refine (inside_dp m any hm' hR ha.1).use ?_
    have hlen : (insideL m any).length ≤ maxLen := by have := hR.nv; have := hw1.1; have : (32 : Nat) ≤ maxLen := by decide
                                                      omega
    generalize insideL m any = L at *
    simp -dsimp [↓callb_fn, h1, h2, Model.cells, vVars, vCons, vTerms, vInts]
    refine (worth_spec m L hm' hlen).use ?_
    simp -dsimp [h1, h2, Model.cells, vVars, vCons, vTerms, vInts]
  rintro ⟨sl, hp, bs⟩ ⟨h2, h5, rfl⟩
  have hbet := worth_between hr hw1
  refine vc_cut (fun s => gt s.sl 2 = .ptr 0 1 0 0 ∧ s.hp = [.mem false [] [m.cells]]) ?_ ?_
  · have n1 : ¬ worthB m (insideL m any) < endsB m true := by omega
    have n2 : ¬ endsB m false < worthB m (insideL m any) := by omega
    simp -dsimp [↓callb_fn, h2, h5, Model.cells, vVars, vCons, vTerms, vInts]
    refine (floor_spec m hm').use ?_
    simp -dsimp [↓callb_fn, h2, h5, n1, Model.cells, vVars, vCons, vTerms, vInts]
    refine (ceil_spec m hm').use ?_
    simp -dsimp [↓callb_fn, h2, h5, n2, Model.cells, vVars, vCons, vTerms, vInts]
  rintro ⟨sl, hp, bs⟩ ⟨h2, rfl⟩
  refine vc_cut (fun s => gt s.sl 2 = .ptr 0 1 0 0 ∧ gt s.sl 6 = .own 3 1 0 m.vars.length m.vars.length ∧ gt s.sl 7 = .own 6 1 0 m.vars.length m.vars.length ∧ ∃ a b c d, s.hp = [.mem false [] [m.cells], a, b, .mem false [] ((insideL m []).map fun n => [V.i n]), c, d, .mem false [] ((insideL m []).map fun n => [V.i n])]) ?_ ?_
  · simp -dsimp [↓callo_fn, h2, Model.cells, vVars, vCons, vTerms, vInts]
    refine DC.sub (ys := [.agg m.cells, vInts []]) (.cons (.refl _) (.cons (.nil 1) .nil)) (DC.mono (inside_spec m [] hm' hR (by decide)) fun r H ⟨o1, o2, hr', hH⟩ => ?_)
    subst hr' hH
    simp -dsimp [↓callo_fn, h2, Model.cells, vVars, vCons, vTerms, vInts]
    refine DC.sub (ys := [.agg m.cells, vInts []]) (.cons (.refl _) (.cons (.nil 1) .nil)) (DC.mono (inside_spec m [] hm' hR (by decide)) fun r H ⟨o1, o2, hr', hH⟩ => ?_)
    subst hr' hH
    simp -dsimp [h2, Model.cells, vVars, vCons, vTerms, vInts]
  rintro s ⟨h2, h6, h7, a, b, c, d, he⟩
  refine vc_cut (fun s => gt s.sl 2 = .ptr 0 1 0 0 ∧ gt s.sl 6 = .own 3 1 0 m.vars.length m.vars.length ∧ gt s.sl 7 = .own 6 1 0 m.vars.length m.vars.length ∧ ∃ L T a b c d, Round m m.goal.length L T ∧ s.hp = [.mem false [] [m.cells], a, b, .mem false [] (L.map fun n => [V.i n]), c, d, .mem false [] (T.map fun n => [V.i n])]) ?_ ?_
  · have hw0 := inside_within hR []
    simp -dsimp [↓loop_f, h2, h6, h7, he]
    refine WI.mono (Q := fun e s => (e = .ret ∧ gt s.sl 4 = .bool true) ∨ (e = .exit 0 ∧ gt s.sl 2 = .ptr 0 1 0 0 ∧ gt s.sl 6 = .own 3 1 0 m.vars.length m.vars.length ∧ gt s.sl 7 = .own 6 1 0 m.vars.length m.vars.length ∧ ∃ L T a b c d, Round m m.goal.length L T ∧ s.hp = [.mem false [] [m.cells], a, b, .mem false [] (L.map fun n => [V.i n]), c, d, .mem false [] (T.map fun n => [V.i n])])) (WI.loop 7 (by simp) (fun s => ∃ i L T a b c d, i ≤ m.goal.length ∧ gt s.sl 2 = .ptr 0 1 0 0 ∧ gt s.sl 6 = .own 3 1 0 m.vars.length m.vars.length ∧ gt s.sl 7 = .own 6 1 0 m.vars.length m.vars.length ∧ gt s.sl 8 = V.i i ∧ Round m i L T ∧ s.hp = [.mem false [] [m.cells], a, b, .mem false [] (L.map fun n => [V.i n]), c, d, .mem false [] (T.map fun n => [V.i n])]) (fun s => (m.goal.length - (gt s.sl 8).num).toNat) ?_ ?_) ?_
    · exact ⟨0, _, _, a, b, c, d, by omega, by simp [h2], by simp [h6], by simp [h7], by simp, ⟨hw0, hw0, fun j t h => by omega, fun j t h => by omega⟩, rfl⟩
    · rintro s ⟨i, L, T, a, b, c, d, hi, h2, h6, h7, h8, hrd, he⟩
      by_cases hil : i < m.goal.length
      · have ht : m.goal[i]? = some m.goal[i] := List.getElem?_eq_getElem hil
        have hw : IntKind.i64.wrap ((i : Int) + 1) = ((i + 1 : Nat) : Int) := by
          have := hR.terms.2
          rw [wrap64] <;> omega
        have hgl := hR.terms.2
        have hok := hR.terms.1 _ (List.getElem_mem hil)
        obtain ⟨hv1, hvo⟩ := hR.varAt hok.x.1 hok.x.2
        have g8 := h8
        generalize hT' : m.goal[i] = t at *
        obtain ⟨n, hn⟩ := Int.eq_ofNat_of_zero_le hok.x.1
        have hxl := hok.x.2
        rw [hn] at hxl
        have hnl : n < m.vars.length := by omega
        have hva : m.vars[n] = varAt m t.x := by
          rw [hn] at hv1
          simp [List.getElem?_eq_getElem hnl] at hv1
          rw [hn]; exact hv1
        have hLl := hrd.l.1
        have hTl := hrd.t.1
        generalize hvv : varAt m t.x = v at *
        unfold hallmarklaw4_ModelWorth.b0
        refine vc_cut (fun s => gt s.sl 2 = .ptr 0 1 0 0 ∧ gt s.sl 6 = .own 3 1 0 m.vars.length m.vars.length ∧ gt s.sl 7 = .own 6 1 0 m.vars.length m.vars.length ∧ gt s.sl 8 = V.i i ∧ s.hp = [.mem false [] [m.cells], a, b, .mem false [] (L.map fun n => [V.i n]), c, d, .mem false [] (T.map fun n => [V.i n])]) (by simp -dsimp [h2, h6, h7, h8, he, hil, Model.cells, vVars, vCons, vTerms, vInts, Term.cells, Var.cells]) ?_
        clear h2 h6 h7 h8 he
        rintro s1 ⟨h2, h6, h7, h8, he⟩
        refine vc_cut (fun s => gt s.sl 2 = .ptr 0 1 0 0 ∧ gt s.sl 6 = .own 3 1 0 m.vars.length m.vars.length ∧ gt s.sl 7 = .own 6 1 0 m.vars.length m.vars.length ∧ gt s.sl 8 = V.i i ∧ ∃ L T a b c d o, Round m (i + 1) L T ∧ s.hp = [.mem false [] [m.cells], a, b, .mem false [] (L.map fun n => [V.i n]), c, d, .mem false [] (T.map fun n => [V.i n]), o]) (vc_block_of ?_) ?_
        · refine vc_cut (fun s => gt s.sl 2 = .ptr 0 1 0 0 ∧ gt s.sl 6 = .own 3 1 0 m.vars.length m.vars.length ∧ gt s.sl 7 = .own 6 1 0 m.vars.length m.vars.length ∧ gt s.sl 8 = V.i i ∧ gt s.sl 9 = .ptr 7 1 0 0 ∧ s.hp = [.mem false [] [m.cells], a, b, .mem false [] (L.map fun n => [V.i n]), c, d, .mem false [] (T.map fun n => [V.i n]), .mem false [] [t.cells]]) (by simp -dsimp [h2, h6, h7, h8, he, hil, hT', Model.cells, vVars, vCons, vTerms, vInts, Term.cells, Var.cells]) ?_
          clear h2 h6 h7 h8 he
          rintro s2 ⟨h2, h6, h7, h8, h9, he⟩
          refine vc_cut (fun s => gt s.sl 2 = .ptr 0 1 0 0 ∧ gt s.sl 6 = .own 3 1 0 m.vars.length m.vars.length ∧ gt s.sl 7 = .own 6 1 0 m.vars.length m.vars.length ∧ gt s.sl 8 = V.i i ∧ gt s.sl 9 = .ptr 7 1 0 0 ∧ (∃ a b c d, s.hp = [.mem false [] [m.cells], a, b, .mem false [] (L.map fun n => [V.i n]), c, d, .mem false [] (T.map fun n => [V.i n]), .mem false [] [t.cells]]) ∧ ∀ (k : Nat) (u : Term), k < i → m.goal[k]? = some u → u.x ≠ t.x) ?_ ?_
          · simp -dsimp [↓loop_f, h2, h6, h7, h8, h9, he]
            refine WI.mono (Q := fun e s => (e = .ret ∧ gt s.sl 4 = .bool true) ∨ (e = .exit 2 ∧ gt s.sl 2 = .ptr 0 1 0 0 ∧ gt s.sl 6 = .own 3 1 0 m.vars.length m.vars.length ∧ gt s.sl 7 = .own 6 1 0 m.vars.length m.vars.length ∧ gt s.sl 8 = V.i i ∧ gt s.sl 9 = .ptr 7 1 0 0 ∧ (∃ a b c d, s.hp = [.mem false [] [m.cells], a, b, .mem false [] (L.map fun n => [V.i n]), c, d, .mem false [] (T.map fun n => [V.i n]), .mem false [] [t.cells]]) ∧ ∀ (k : Nat) (u : Term), k < i → m.goal[k]? = some u → u.x ≠ t.x)) (WI.loop 8 (by simp) (fun s => ∃ k, k ≤ i ∧ gt s.sl 2 = .ptr 0 1 0 0 ∧ gt s.sl 6 = .own 3 1 0 m.vars.length m.vars.length ∧ gt s.sl 7 = .own 6 1 0 m.vars.length m.vars.length ∧ gt s.sl 8 = V.i i ∧ gt s.sl 9 = .ptr 7 1 0 0 ∧ gt s.sl 10 = V.i k ∧ (∃ a b c d, s.hp = [.mem false [] [m.cells], a, b, .mem false [] (L.map fun n => [V.i n]), c, d, .mem false [] (T.map fun n => [V.i n]), .mem false [] [t.cells]]) ∧ ∀ (j : Nat) (u : Term), j < k → m.goal[j]? = some u → u.x ≠ t.x) (fun s => (i - (gt s.sl 10).num).toNat) ?_ ?_) ?_
            · exact ⟨0, by omega, by simp, by simp, by simp, by simp, by simp, by simp, ⟨a, b, c, d, by simp⟩, fun j u h => by omega⟩
            · clear h2 h6 h7 h8 h9 he
              rintro s3 ⟨k, hk, h2, h6, h7, h8, h9, h10, ⟨a, b, c, d, he⟩, hd⟩
              by_cases hki : k < i
              · have hkl : k < m.goal.length := by omega
                have hwk : IntKind.i64.wrap ((k : Int) + 1) = ((k + 1 : Nat) : Int) := by rw [wrap64] <;> omega
                by_cases hx : m.goal[k].x = t.x
                · simp -dsimp [hallmarklaw4_ModelWorth.b1, h2, h6, h7, h8, h9, h10, he, hki, hkl, hx, Model.cells, vVars, vCons, vTerms, vInts, Term.cells, Var.cells]
                · simp -dsimp [hallmarklaw4_ModelWorth.b1, h2, h6, h7, h8, h9, h10, he, hki, hkl, hx, hwk, Model.cells, vVars, vCons, vTerms, vInts, Term.cells, Var.cells]
                  refine ⟨⟨k + 1, by omega, by omega, fun j u hj hu => ?_⟩, by omega⟩
                  by_cases hjk : j = k
                  · subst hjk
                    rw [List.getElem?_eq_getElem hkl] at hu
                    injection hu with hu
                    rw [← hu]; exact hx
                  · exact hd j u (by omega) hu
              · obtain rfl : k = i := by omega
                simp -dsimp [hallmarklaw4_ModelWorth.b1, h2, h6, h7, h8, h9, h10, he, Model.cells, vVars, vCons, vTerms, vInts, Term.cells, Var.cells]
                exact hd
            · clear h2 h6 h7 h8 h9 he
              rintro e s3 (⟨rfl, h4⟩ | ⟨rfl, h2, h6, h7, h8, h9, ⟨a, b, c, d, he⟩, hd⟩)
              · simp [h4, hallmarklaw4_ModelWorth.rs]
              · simp [h2, h6, h7, h8, h9, he]
                exact hd
          clear h2 h6 h7 h8 h9 he
          rintro s3 ⟨h2, h6, h7, h8, h9, ⟨a, b, c, d, he⟩, hd⟩
          refine vc_cut (fun s => gt s.sl 2 = .ptr 0 1 0 0 ∧ gt s.sl 6 = .own 3 1 0 m.vars.length m.vars.length ∧ gt s.sl 7 = .own 6 1 0 m.vars.length m.vars.length ∧ gt s.sl 8 = V.i i ∧ gt s.sl 9 = .ptr 7 1 0 0 ∧ s.hp = [.mem false [] [m.cells], a, b, .mem false [] ((L.set n v.lo).map fun n => [V.i n]), c, d, .mem false [] ((T.set n v.hi).map fun n => [V.i n]), .mem false [] [t.cells]]) ?_ ?_
          · simp -dsimp [h2, h6, h7, h8, h9, he, Model.cells, vVars, vCons, vTerms, vInts, Term.cells, Var.cells, hn, hnl, hva, hLl, hTl]
          clear h2 h6 h7 h8 h9 he
          rintro s4 ⟨h2, h6, h7, h8, h9, he⟩
          have hnn : t.x.toNat = n := by omega
          by_cases hc : t.c < 0
          · have hc' : ¬ 0 < t.c := by omega
            simp -dsimp [h2, h6, h7, h8, h9, he, Model.cells, vVars, vCons, vTerms, vInts, Term.cells, Var.cells, hn, hnl, hva, hLl, hTl, hc]
            exact ⟨L.set n v.hi, T.set n v.lo, hnn ▸ Round.next hR hrd ht hd (by simp [wantL, hvv, hc']) (by simp [wantL, hvv, hc']), by rw [List.map_set], by rw [List.map_set]⟩
          · simp -dsimp [h2, h6, h7, h8, h9, he, Model.cells, vVars, vCons, vTerms, vInts, Term.cells, Var.cells, hn, hnl, hva, hLl, hTl, hc]
            have hc2 : 0 < t.c := by have := hok.c.2.2; omega
            exact ⟨L.set n v.lo, T.set n v.hi, hnn ▸ Round.next hR hrd ht hd (by simp [wantL, hvv, hc2]) (by simp [wantL, hvv, hc2]), by rw [List.map_set], by rw [List.map_set]⟩
        · rintro s5 ⟨h2, h6, h7, h8, L, T, a, b, c, d, o, hrd, he⟩
          simp -dsimp [h2, h6, h7, h8, he, hw, g8]
          exact ⟨⟨i + 1, by omega, by omega, L, T, hrd, rfl, rfl⟩, by omega⟩
      · obtain rfl : i = m.goal.length := by omega
        simp -dsimp [hallmarklaw4_ModelWorth.b0, h2, h6, h7, h8, he, Model.cells, vVars, vCons, vTerms, vInts]
        exact ⟨L, T, hrd, rfl, rfl⟩
    · rintro e s (⟨rfl, h4⟩ | ⟨rfl, h2, h6, h7, L, T, a, b, c, d, hrd, he⟩)
      · simp [h4, hallmarklaw4_ModelWorth.rs]
      · simp [h2, h6, h7, he]
        exact ⟨L, T, hrd, rfl, rfl⟩
  rintro s ⟨h2, h6, h7, L, T, a, b, c, d, hrd, he⟩
  obtain ⟨e1, e2⟩ := hrd.low_worth hr
  have hLl := hrd.l.1
  have hTl := hrd.t.1
  have hnv := hR.nv
  have h32 : (32 : Nat) ≤ maxLen := by decide
  have kL : List.take m.vars.length (L.map fun n => [V.i n]) = L.map fun n => [V.i n] := List.take_of_length_le (by simp [hLl])
  have kT : List.take m.vars.length (T.map fun n => [V.i n]) = T.map fun n => [V.i n] := List.take_of_length_le (by simp [hTl])
  have s1 := worth_spec m L hm' (by omega)
  have s2 := worth_spec m T hm' (by omega)
  rw [e1] at s1
  rw [e2] at s2
  simp -dsimp [↓callb_fn, h2, h6, h7, he, hLl, hTl, kL, kT, Model.cells, vVars, vCons, vTerms, vInts]
  refine s1.use ?_
  simp -dsimp [↓callb_fn, h2, h6, h7, he, hLl, hTl, kL, kT, Model.cells, vVars, vCons, vTerms, vInts]
  refine (floor_spec m hm').use ?_
  simp -dsimp [↓callb_fn, h2, h6, h7, he, hLl, hTl, kL, kT, Model.cells, vVars, vCons, vTerms, vInts]
  refine s2.use ?_
  simp -dsimp [↓callb_fn, h2, h6, h7, he, hLl, hTl, kL, kT, Model.cells, vVars, vCons, vTerms, vInts]
  refine (ceil_spec m hm').use ?_
  simp -dsimp [↓callb_fn, h2, h6, h7, he, hLl, hTl, kL, kT, Model.cells, vVars, vCons, vTerms, vInts, hallmarklaw4_ModelWorth.rs]
end Go.Abs.G
