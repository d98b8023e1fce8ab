import Derived.Test.YtkfpoacloidepaaC14
set_option linter.all false
namespace Go.Abs.G
open Go.Proofs
set_option linter.unusedVariables false
set_option linter.unusedSimpArgs false

def placeI (k n : Int) : Int := if k.tmod n < 0 then k.tmod n + n else k.tmod n
def insideAt (any : List Int) (i : Nat) (v : Var) : Int := if i < any.length then v.lo + placeI (any.getD i 0) (v.hi - v.lo + 1) else v.lo
def insideL (m : Model) (any : List Int) : List Int := m.vars.mapIdx fun i v => insideAt any i v

theorem placeI_bound (k : Int) {n : Int} (h : 1 ≤ n) : 0 ≤ placeI k n ∧ placeI k n < n := by
  have h1 : k.tmod n < n := Int.tmod_lt_of_pos k (by omega)
  have h2 : -n < k.tmod n := Int.lt_tmod_of_pos k (by omega)
  unfold placeI
  split <;> omega

theorem place_spec (k n : Int) (h : 1 ≤ n) (h2 : n ≤ 4611686018427387904) : Pf Try.prog hallmarklaw4_place.id [V.i k, V.i n] (V.i (placeI k n)) := by
  refine DC.of hallmarklaw4_place.ok (by simp) ?_
  have h1 : k.tmod n < n := Int.tmod_lt_of_pos k (by omega)
  have h3 : -n < k.tmod n := Int.lt_tmod_of_pos k (by omega)
  have hn : ¬ n = 0 := by omega
  have hw : IntKind.i64.wrap (k.tmod n) = k.tmod n := by rw [wrap64] <;> omega
  have hw2 : k.tmod n < 0 → IntKind.i64.wrap (k.tmod n + n) = k.tmod n + n := fun h => by rw [wrap64] <;> omega
  by_cases hs : k.tmod n < 0
  · simp [hallmarklaw4_place.ir, hallmarklaw4_place.rs, hn, hw, hs, hw2 hs, placeI]
  · simp [hallmarklaw4_place.ir, hallmarklaw4_place.rs, hn, hw, hs, placeI]

theorem inside_spec (m : Model) (any : List Int) (hm' : okModel m) (hR : Right m) (ha : any.length ≤ maxLen) :
    DC Try.prog hallmarklaw4_inside.id [.agg m.cells, vInts any] [] (fun r H => ∃ o1 o2, r = .own 2 1 0 m.vars.length m.vars.length ∧ H = [o1, o2, .mem false [] ((insideL m any).map fun n => [V.i n])]) := by
  have hm : (maxLen : Int) ≤ 9223372036854775807 := by decide
  have hnv := hR.nv
  refine DC.of hallmarklaw4_inside.ok (by simp) ?_
  simp [hallmarklaw4_inside.ir, hallmarklaw4_inside.rs, Model.cells, vVars, vCons, vTerms, vInts]
  refine WI.mono (Q := fun e s => e = .exit 0 ∧ ∃ o2, gt s.sl 5 = .own 2 1 0 m.vars.length m.vars.length ∧ s.hp = [.mem false [] [m.cells], o2, .mem false [] ((insideL m any).map fun n => [V.i n])]) (WI.loop 3 (by simp) (fun s => ∃ i, i ≤ m.vars.length ∧ gt s.sl 1 = vInts any ∧ gt s.sl 2 = .ptr 0 1 0 0 ∧ gt s.sl 6 = V.i i ∧
      ((i = 0 ∧ gt s.sl 5 = .a (.slice none 0 0) ∧ s.hp = [.mem false [] [m.cells]]) ∨ ∃ o, 0 < i ∧ gt s.sl 5 = .own 2 1 0 i i ∧ s.hp = [.mem false [] [m.cells], o, .mem false [] (((insideL m any).take i).map fun n => [V.i n])])) (fun s => (m.vars.length - (gt s.sl 6).num).toNat) ?_ ?_) ?_
  · exact ⟨0, by simp [Model.cells, vVars, vCons, vTerms, vInts]⟩
  · rintro ⟨sl, hp, bs⟩ ⟨i, hi, h1, h2, h6, hcase⟩
    have hlen : (insideL m any).length = m.vars.length := by simp [insideL]
    by_cases hil : i < m.vars.length
    · have hw : IntKind.i64.wrap ((i : Int) + 1) = ((i + 1 : Nat) : Int) := by rw [wrap64] <;> omega
      have hvo := VarOk.of (hR.var i _ (List.getElem?_eq_getElem hil))
      have l1 := hvo.lo; have l2 := hvo.hi; have l3 := hvo.le; have l4 := hvo.dom
      have hget : (insideL m any)[i]'(by omega) = insideAt any i m.vars[i] := by simp [insideL]
      have htk : ((insideL m any).take (i + 1)).map (fun n => [V.i n]) = ((insideL m any).take i).map (fun n => [V.i n]) ++ [[V.i (insideAt any i m.vars[i])]] := by
        rw [List.take_succ_eq_append_getElem (by omega), List.map_append, hget]; rfl
      generalize hv : m.vars[i] = v at *
      have g6 := h6
      have hp0 : hp[0]? = some (.mem false [] [m.cells]) := by rcases hcase with ⟨_, _, rfl⟩ | ⟨o, _, _, rfl⟩ <;> rfl
      obtain ⟨x5, h5⟩ : ∃ x, gt sl 5 = x := ⟨_, rfl⟩
      have hcase' : (i = 0 ∧ x5 = .a (.slice none 0 0) ∧ hp = [.mem false [] [m.cells]]) ∨ ∃ o, 0 < i ∧ x5 = .own 2 1 0 i i ∧ hp = [.mem false [] [m.cells], o, .mem false [] (((insideL m any).take i).map fun n => [V.i n])] := by
        rw [← h5]; exact hcase
      clear hcase
      unfold hallmarklaw4_inside.b0
      refine vc_cut (fun s => gt s.sl 1 = vInts any ∧ gt s.sl 2 = .ptr 0 1 0 0 ∧ gt s.sl 5 = x5 ∧ gt s.sl 6 = V.i i ∧ s.hp = hp) (by simp [h1, h2, h5, h6, hp0, hil, Model.cells, vVars]) ?_
      rintro s ⟨h1, h2, h5, h6, he⟩
      refine vc_cut (fun s => gt s.sl 1 = vInts any ∧ gt s.sl 2 = .ptr 0 1 0 0 ∧ gt s.sl 6 = V.i i ∧ ∃ o, gt s.sl 5 = .own 2 1 0 (i + 1) (i + 1) ∧ s.hp.take 3 = [.mem false [] [m.cells], o, .mem false [] (((insideL m any).take (i + 1)).map fun n => [V.i n])]) (vc_block_of ?_) ?_
      · refine vc_cut (fun s => gt s.sl 1 = vInts any ∧ gt s.sl 2 = .ptr 0 1 0 0 ∧ gt s.sl 5 = x5 ∧ gt s.sl 6 = V.i i ∧ gt s.sl 7 = V.i v.lo ∧ s.hp = hp) (by simp [h1, h2, h5, h6, he, hp0, hil, Model.cells, vVars, hv, Var.cells]) ?_
        rintro s ⟨h1, h2, h5, h6, h7, he⟩
        refine vc_cut (fun s => gt s.sl 1 = vInts any ∧ gt s.sl 2 = .ptr 0 1 0 0 ∧ gt s.sl 5 = x5 ∧ gt s.sl 6 = V.i i ∧ gt s.sl 7 = V.i (insideAt any i v) ∧ s.hp = hp) ?_ ?_
        · by_cases hia : i < any.length
          · have hw1 : IntKind.i64.wrap (v.hi - v.lo) = v.hi - v.lo := by rw [wrap64] <;> omega
            have hw2 : IntKind.i64.wrap (v.hi - v.lo + 1) = v.hi - v.lo + 1 := by rw [wrap64] <;> omega
            have hpl := placeI_bound any[i] (n := v.hi - v.lo + 1) (by omega)
            have hw3 : IntKind.i64.wrap (v.lo + placeI any[i] (v.hi - v.lo + 1)) = v.lo + placeI any[i] (v.hi - v.lo + 1) := by rw [wrap64] <;> omega
            simp [h1, h2, h5, h6, h7, he, hp0, hil, Model.cells, vVars, hv, Var.cells, vInts, hia, hw1, hw2]
            refine (place_spec any[i] (v.hi - v.lo + 1) (by omega) (by omega)).use ?_
            simp [insideAt, hia, hw3, he]
          · simp [h1, h2, h5, h6, h7, he, vInts, hia, insideAt]
        rintro s ⟨q1, q2, q5, q6, q7, qe⟩
        have hge := List.length_take_of_le (show i ≤ (insideL m any).length by omega)
        rw [htk]
        rcases hcase' with ⟨rfl, rfl, rfl⟩ | ⟨o, h0, rfl, rfl⟩
        · simp [q1, q2, q5, q6, q7, qe]
        · simp [q1, q2, q5, q6, q7, qe, hlen]
          omega
      rintro ⟨sl, hp', bs⟩ ⟨q1, q2, q6, o, q5, hp3⟩
      have hp4 : List.take 3 (List.map (limO 3) hp') = List.map (limO 3) [.mem false [] [m.cells], o, .mem false [] (((insideL m any).take (i + 1)).map fun n => [V.i n])] := by rw [← List.map_take, hp3]
      simp [q1, q2, q5, q6, hw, g6, vInts, hp4]
      exact ⟨⟨i + 1, by omega, by omega, by omega, rfl, rfl⟩, by omega⟩
    · obtain rfl : i = m.vars.length := by omega
      have hne : ¬ m.vars.length = 0 := by omega
      rcases hcase with ⟨h0, _, _⟩ | ⟨o, h0, h5, rfl⟩
      · exact absurd h0 hne
      · rw [List.take_of_length_le (by omega)] at *
        simp [hallmarklaw4_inside.b0, h1, h2, h5, h6, Model.cells, vVars]
  · rintro e ⟨sl, hp, bs⟩ ⟨rfl, o, h5, rfl⟩
    simp [h5]

/-- The chapter's two variables. -/
def twoM : Model := ⟨[⟨⟨#[120]⟩, 0, 3⟩, ⟨⟨#[121]⟩, -1, 2⟩], [], true, [⟨3, 0⟩, ⟨-2, 1⟩]⟩

theorem two_spec : DC Try.prog hallmarklaw4_two.id [] [] (fun r H => r = .agg [.own 1 3 0 2 2, .a (.slice none 0 0), .bool true, .own 2 2 0 2 2] ∧ ∃ o, H = [.mem false [1, 2] o, .mem false [] (twoM.vars.map Var.cells), .mem false [] (twoM.goal.map Term.cells)]) := by
  refine DC.of hallmarklaw4_two.ok (by simp) ?_
  simp [hallmarklaw4_two.ir, hallmarklaw4_two.rs, twoM, Var.cells, Term.cells]

theorem holds_use {c : Con} {values : List Int} {xs : List V} {b : Bool} {Q : V → Prop} (hs : V.subL xs [.agg c.cells, vInts values]) (hc : okCon c) (hv : values.length ≤ maxLen) (hk : KindOk c) (hb : holdsB c values = b) (hq : Q (.bool b)) : DP Try.prog model_Holds.id xs Q :=
  DP.mono (DP.sub hs (holds_spec c values hc hv hk)) fun r hr => by rw [hr, hb]; exact hq

def linC : Con := ⟨1, 1, [⟨2, 0⟩, ⟨-1, 1⟩], 4, 0, 0, 0, [], [], []⟩
def neC : Con := ⟨2, 0, [], 1, 0, 0, 1, [], [], []⟩
def elC : Con := ⟨4, 0, [], 0, 0, 0, 1, [], [2, 0], []⟩
def reC : Con := ⟨7, 0, [⟨1, 0⟩, ⟨1, 1⟩], 1, 0, 0, 0, [], [], []⟩
def rowC : Con := ⟨8, 0, [], 0, 0, 0, 0, [0, 1], [], [[0, 1], [3, -1]]⟩
def tiC : Con := ⟨9, 2, [], 2, 2, 0, 0, [0, 1, 1], [], []⟩

theorem known_values : holdsB linC [2, 0] = true ∧ holdsB linC [3, 2] = true ∧ holdsB neC [0, 1] = true ∧ holdsB elC [1, 0] = true ∧ holdsB reC [1, 0] = true ∧
    holdsB linC [3, 1] = false ∧ holdsB neC [1, 0] = false ∧ holdsB elC [2, 2] = false ∧ holdsB reC [0, 1] = false ∧ holdsB reC [2, 2] = false ∧
    holdsB rowC [3, -1] = true ∧ holdsB rowC [0, -1] = false ∧ holdsB tiC [0, 2] = true ∧ holdsB tiC [2, 2] = false := by
  refine ⟨?_, ?_, ?_, ?_, ?_, ?_, ?_, ?_, ?_, ?_, ?_, ?_, ?_, ?_⟩ <;> decide

theorem known_two : checkB twoM = (0, 0) ∧ prodB twoM 16 = (16, true) ∧ (prodB twoM 15).2 = false ∧ endsB twoM true = -4 ∧ endsB twoM false = 11 ∧ worthB twoM [1, 2] = -1 ∧ solB twoM [1, 2] = true ∧
    (checkB { twoM with vars := [⟨⟨#[57, 97]⟩, 0, 3⟩, ⟨⟨#[121]⟩, -1, 2⟩] }).2 = 41 := by
  refine ⟨?_, ?_, ?_, ?_, ?_, ?_, ?_, ?_⟩ <;> decide

theorem known_ok : okCon linC ∧ okCon neC ∧ okCon elC ∧ okCon reC ∧ okCon rowC ∧ okCon tiC := by
  refine ⟨?_, ?_, ?_, ?_, ?_, ?_⟩ <;> simp [okCon, okTerms, okInts, okTerm, I64, linC, neC, elC, reC, rowC, tiC, maxLen]
end Go.Abs.G
