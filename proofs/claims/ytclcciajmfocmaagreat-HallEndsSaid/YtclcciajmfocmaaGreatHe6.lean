import Derived.Test.YtclcciajmfocmaaGreatHe5
set_option linter.all false
namespace Go.Abs.G
open Go.Proofs
set_option linter.unusedVariables false
set_option linter.unusedSimpArgs false

theorem sameInts13_spec (a b : List Int) (ha : a.length ≤ maxLen) : Pf Tryz.prog hallmarklaw13_sameInts.id [vInts a, vInts b] (.bool (decide (a = b))) := by
  have hM : (maxLen : Int) ≤ 9223372036854775807 := by decide
  refine DC.of hallmarklaw13_sameInts.ok (by simp) ?_
  unfold hallmarklaw13_sameInts.ir
  refine vc_cut (At [(0, vInts a), (1, vInts b)] []) (by simp -dsimp [At]) ?_
  try clear h
  rintro ⟨sl, hp, bs⟩ ⟨rfl, h⟩
  simp only [sls_cons, sls_one, sls_nil] at h
  refine vc_cut (fun st => a.length = b.length ∧ At [(0, vInts a), (1, vInts b)] [] st) ?_ ?_
  · by_cases hl : a.length = b.length
    · simp -dsimp [h, At, hl, vInts]
    · have hl' : ¬ (a.length : Int) = b.length := by omega
      have hne : a ≠ b := fun e => hl (by rw [e])
      simp -dsimp [h, hl, hl', vInts, hallmarklaw13_sameInts.rs, hne]
  try clear h
  rintro ⟨sl, hp, bs⟩ ⟨hl, rfl, h⟩
  simp only [sls_cons, sls_one, sls_nil] at h
  refine vc_cut (fun st => a = b ∧ st.hp = []) ?_ ?_
  · refine vc_cut (At [(0, vInts a), (1, vInts b), (5, V.i 0)] []) (by simp -dsimp [h, At]) ?_
    try clear h
    rintro ⟨sl, hp, bs⟩ ⟨rfl, h⟩
    simp only [sls_cons, sls_one, sls_nil] at h
    refine vc_block_of (vc_upto 0 (by simp) a.length (fun i st => (∀ j, j < i → a[j]? = b[j]?) ∧ At [(0, vInts a), (1, vInts b), (5, V.i i)] [] st) ⟨by simp, rfl, by simpa using h⟩ ?_)
    clear h
    rintro i ⟨sl, hp, bs⟩ hi ⟨hx, rfl, h⟩
    simp only [sls_cons, sls_one] at h
    unfold hallmarklaw13_sameInts.b0
    by_cases hil : i < a.length
    · have hw : IntKind.i64.wrap ((i : Int) + 1) = ((i + 1 : Nat) : Int) := by rw [wrap64] <;> omega
      have hil' : i < b.length := by omega
      refine vc_cut (At [(0, vInts a), (1, vInts b), (5, V.i i)] []) (by simp -dsimp [h, At, hil, vInts]) ?_
      try clear h
      rintro ⟨sl, hp, bs⟩ ⟨rfl, h⟩
      simp only [sls_cons, sls_one, sls_nil] at h
      refine vc_cut (fun st => a[i]? = b[i]? ∧ At [(0, vInts a), (1, vInts b), (5, V.i i)] [] st) ?_ ?_
      · refine vc_block_of ?_
        by_cases he : a[i] = b[i]
        · simp -dsimp [h, At, vInts, hil, hil', he]
        · have hne : a ≠ b := fun e => he (by subst e; rfl)
          simp -dsimp [h, vInts, hil, hil', he, hallmarklaw13_sameInts.rs, hne]
      try clear h
      rintro ⟨sl, hp, bs⟩ ⟨he, rfl, h⟩
      simp only [sls_cons, sls_one, sls_nil] at h
      simp -dsimp [h, At, hw, hil, vInts]
      intro j hj
      by_cases hji : j = i
      · rw [hji]; exact he
      · exact hx j (by omega)
    · have hil' : i = a.length := by omega
      subst hil'
      simp -dsimp [h, vInts]
      apply List.ext_getElem?
      intro j
      by_cases hj : j < a.length
      · exact hx j hj
      · rw [List.getElem?_eq_none (by omega), List.getElem?_eq_none (by omega)]
  · rintro ⟨sl, hp, bs⟩ ⟨rfl, rfl⟩
    simp -dsimp [hallmarklaw13_sameInts.rs]


theorem sameHall13_spec (a b c d : Int) (xs ys : List Int) (hx : xs.length ≤ maxLen) : Pf Tryz.prog hallmarklaw13_sameHall.id [.agg (hallCells a b xs), .agg (hallCells c d ys)] (.bool (decide (a = c) && (decide (b = d) && decide (xs = ys)))) := by
  refine DC.of hallmarklaw13_sameHall.ok (by simp) ?_
  unfold hallmarklaw13_sameHall.ir
  obtain ⟨A, hA⟩ : ∃ A, A = O.mem false [] [hallCells a b xs] := ⟨_, rfl⟩
  obtain ⟨B, hB⟩ : ∃ B, B = O.mem false [] [hallCells c d ys] := ⟨_, rfl⟩
  refine vc_cut (At [(2, .ptr 0 1 0 0), (3, .ptr 1 1 0 0)] [A, B]) (by simp -dsimp [At, hA, hB, hallCells, vInts]) ?_
  try clear h
  rintro ⟨sl, hp, bs⟩ ⟨rfl, h⟩
  simp only [sls_cons, sls_one, sls_nil] at h
  have hs := sameInts13_spec xs ys hx
  by_cases h1 : a = c
  · by_cases h2 : b = d
    · simp -dsimp [h, hA, hB, hallCells, vInts, h1, h2]
      refine gcall (hs) (by simp -dsimp [h, hA, hB, hallCells, vInts, h1, h2, hallmarklaw13_sameHall.rs]) (by simp -dsimp [h, hA, hB, hallCells, vInts, h1, h2, hallmarklaw13_sameHall.rs]) ?_
      simp -dsimp [h, hA, hB, hallCells, vInts, h1, h2, hallmarklaw13_sameHall.rs]
    · simp -dsimp [h, hA, hB, hallCells, vInts, h1, h2, hallmarklaw13_sameHall.rs]
  · simp -dsimp [h, hA, hB, hallCells, vInts, h1, hallmarklaw13_sameHall.rs]

def clash (vs : List Int) (x y : Int) : Prop := 0 ≤ x ∧ x < vs.length ∧ 0 ≤ y ∧ y < vs.length ∧ vs.getD x.toNat 0 = vs.getD y.toNat 0
def Diff (xs vs : List Int) : Prop := ∀ (i k : Nat) (x y : Int), k < i → xs[i]? = some x → xs[k]? = some y → ¬ clash vs x y
theorem different_spec (xs vs : List Int) (hx : xs.length ≤ 1000000) (hv : vs.length ≤ 1000000) : DP Tryz.prog hallmarklaw13_different.id [vInts xs, vInts vs] (fun r => ∃ b, r = .bool b ∧ (b = true ↔ Diff xs vs)) := by
  refine DC.of hallmarklaw13_different.ok (by simp) ?_
  unfold hallmarklaw13_different.ir
  refine vc_cut (At [(0, vInts xs), (1, vInts vs)] []) (by simp -dsimp [At]) ?_
  try clear h
  rintro ⟨sl, hp, bs⟩ ⟨rfl, h⟩
  simp only [sls_cons, sls_one, sls_nil] at h
  refine vc_cut (fun st => Diff xs vs ∧ st.hp = []) ?_ ?_
  · refine vc_cut (At [(0, vInts xs), (1, vInts vs), (5, V.i 0)] []) (by simp -dsimp [h, At]) ?_
    try clear h
    rintro ⟨sl, hp, bs⟩ ⟨rfl, h⟩
    simp only [sls_cons, sls_one, sls_nil] at h
    refine vc_block_of (vc_upto 0 (by simp) xs.length (fun i st => (∀ (i' k : Nat) (x y : Int), k < i' → i' < i → xs[i']? = some x → xs[k]? = some y → ¬ clash vs x y) ∧ At [(0, vInts xs), (1, vInts vs), (5, V.i i)] [] st) ⟨(fun _ _ _ _ _ h => by omega), rfl, by simpa using h⟩ ?_)
    clear h
    rintro i ⟨sl, hp, bs⟩ hi ⟨hd, rfl, h⟩
    simp only [sls_cons, sls_one] at h
    unfold hallmarklaw13_different.b0
    by_cases hil : i < xs.length
    · have hil' : (i : Int) < xs.length := by omega
      have hw : IntKind.i64.wrap ((i : Int) + 1) = ((i + 1 : Nat) : Int) := by rw [wrap64] <;> omega
      refine vc_cut (At [(0, vInts xs), (1, vInts vs), (5, V.i i)] []) (by simp -dsimp [h, At, hil, hil', vInts]) ?_
      try clear h
      rintro ⟨sl, hp, bs⟩ ⟨rfl, h⟩
      simp only [sls_cons, sls_one, sls_nil] at h
      obtain ⟨x, hxx⟩ : ∃ x, x = xs[i] := ⟨_, rfl⟩
      refine vc_cut (fun st => (∀ (k : Nat) (y : Int), k < i → xs[k]? = some y → ¬ clash vs x y) ∧ At [(0, vInts xs), (1, vInts vs), (5, V.i i)] [] st) ?_ ?_
      · refine vc_block_of ?_
        refine vc_cut (At [(0, vInts xs), (1, vInts vs), (5, V.i i), (6, V.i 0)] []) (by simp -dsimp [h, At]) ?_
        try clear h
        rintro ⟨sl, hp, bs⟩ ⟨rfl, h⟩
        simp only [sls_cons, sls_one, sls_nil] at h
        refine vc_block_of (vc_upto 0 (by simp) i (fun k st => (∀ (k' : Nat) (y : Int), k' < k → xs[k']? = some y → ¬ clash vs x y) ∧ At [(0, vInts xs), (1, vInts vs), (5, V.i i), (6, V.i k)] [] st) ⟨(fun _ _ h => by omega), rfl, by simpa using h⟩ ?_)
        clear h
        rintro k ⟨sl, hp, bs⟩ hk ⟨hd2, rfl, h⟩
        simp only [sls_cons, sls_one] at h
        unfold hallmarklaw13_different.b1
        by_cases hkl : k < i
        · have hkl' : (k : Int) < i := by omega
          have hkx : k < xs.length := by omega
          have hkx' : (k : Int) < xs.length := by omega
          have hwk : IntKind.i64.wrap ((k : Int) + 1) = ((k + 1 : Nat) : Int) := by rw [wrap64] <;> omega
          obtain ⟨y, hyy⟩ : ∃ y, y = xs[k] := ⟨_, rfl⟩
          have hnext : ¬ clash vs x y → ∀ (k' : Nat) (y : Int), k' < k + 1 → xs[k']? = some y → ¬ clash vs x y := fun hc k' y' hk' hy' => by
            by_cases hke : k' = k
            · subst hke
              rw [List.getElem?_eq_getElem hkx, ← hyy] at hy'
              rw [← Option.some.inj hy']; exact hc
            · exact hd2 k' y' (by omega) hy'
          by_cases c1 : 0 ≤ x
          · by_cases c2 : x < vs.length
            · by_cases c3 : 0 ≤ y
              · by_cases c4 : y < vs.length
                · obtain ⟨p, hp⟩ := Int.eq_ofNat_of_zero_le c1
                  obtain ⟨q, hq⟩ := Int.eq_ofNat_of_zero_le c3
                  have p1 : p < vs.length := by omega
                  have q1 : q < vs.length := by omega
                  have p2 : (p : Int) < vs.length := by omega
                  have q2 : (q : Int) < vs.length := by omega
                  have ep : vs.getD p 0 = vs[p] := by simp [List.getD, p1]
                  have eq' : vs.getD q 0 = vs[q] := by simp [List.getD, q1]
                  rw [hp] at hxx
                  rw [hq] at hyy
                  by_cases c5 : vs[p] = vs[q]
                  · have hcl : clash vs x y := ⟨c1, c2, c3, c4, by rw [hp, hq]; simp only [Int.toNat_natCast]; rw [ep, eq', c5]⟩
                    simp -dsimp [h, hil, hil', hkl, hkl', hkx, hkx', vInts, ← hxx, ← hyy, p1, q1, p2, q2, c5, hallmarklaw13_different.rs]
                    intro hD
                    refine hD i k x y hkl ?_ ?_ hcl
                    · rw [List.getElem?_eq_getElem hil, ← hxx, hp]
                    · rw [List.getElem?_eq_getElem hkx, ← hyy, hq]
                  · have hcl : ¬ clash vs x y := fun ⟨_, _, _, _, e⟩ => c5 (by rw [hp, hq] at e; simp only [Int.toNat_natCast] at e; rw [ep, eq'] at e; exact e)
                    simp -dsimp [h, hil, hil', hkl, hkl', hkx, hkx', vInts, ← hxx, ← hyy, p1, q1, p2, q2, c5, At, hwk]
                    exact hnext hcl
                · have hcl : ¬ clash vs x y := fun ⟨_, _, _, e, _⟩ => c4 e
                  simp -dsimp [h, hil, hil', hkl, hkl', hkx, hkx', vInts, ← hxx, ← hyy, c1, c2, c3, c4, At, hwk]
                  exact hnext hcl
              · have hcl : ¬ clash vs x y := fun ⟨_, _, e, _, _⟩ => c3 e
                simp -dsimp [h, hil, hil', hkl, hkl', hkx, hkx', vInts, ← hxx, ← hyy, c1, c2, c3, At, hwk]
                exact hnext hcl
            · have hcl : ¬ clash vs x y := fun ⟨_, e, _, _, _⟩ => c2 e
              simp -dsimp [h, hil, hil', hkl, hkl', hkx, hkx', vInts, ← hxx, ← hyy, c1, c2, At, hwk]
              exact hnext hcl
          · have hcl : ¬ clash vs x y := fun ⟨e, _, _, _, _⟩ => c1 e
            simp -dsimp [h, hil, hil', hkl, hkl', hkx, hkx', vInts, ← hxx, ← hyy, c1, At, hwk]
            exact hnext hcl
        · have hkl' : ¬ (k : Int) < i := by omega
          have e : k = i := by omega
          subst e
          simp -dsimp [h, At]
          exact hd2
      try clear h
      rintro ⟨sl, hp, bs⟩ ⟨hd2, rfl, h⟩
      simp only [sls_cons, sls_one, sls_nil] at h
      simp -dsimp [h, At, hw, hil, vInts]
      intro i' k x' y' hk hi' hx' hy'
      by_cases hie : i' = i
      · subst hie
        rw [List.getElem?_eq_getElem hil, ← hxx] at hx'
        rw [← Option.some.inj hx']; exact hd2 k y' hk hy'
      · exact hd i' k x' y' hk (by omega) hx' hy'
    · have hil' : ¬ (i : Int) < xs.length := by omega
      simp -dsimp [h, hil', vInts]
      intro i' k x y hk hx' hy'
      exact hd i' k x y hk (by have := (List.getElem?_eq_some_iff.1 hx').1; omega) hx' hy'
  · rintro ⟨sl, hp, bs⟩ ⟨he, rfl⟩
    simp -dsimp [hallmarklaw13_different.rs, he]
end Go.Abs.G

namespace Go.Abs.G
open Go.Proofs
set_option linter.unusedVariables false
set_option linter.unusedSimpArgs false

def m13 : Model := ⟨[⟨⟨#[120]⟩, 1, 2⟩, ⟨⟨#[121]⟩, 1, 2⟩, ⟨⟨#[122]⟩, 1, 4⟩, ⟨⟨#[119]⟩, 4, 4⟩], [], false, []⟩
theorem m13_ok : okModel m13 := by
  refine ⟨⟨by decide, fun v hv => ?_⟩, ⟨by decide, fun c hc => by cases hc⟩, by decide, fun t ht => by cases ht⟩
  simp only [m13, List.mem_cons, List.not_mem_nil, or_false] at hv
  rcases hv with rfl | rfl | rfl | rfl <;> exact ⟨by decide, ⟨by decide, by decide⟩, ⟨by decide, by decide⟩⟩

theorem up_eq : ∀ {a b : List Int}, a.Pairwise (· < ·) → b.Pairwise (· < ·) → (∀ x, x ∈ a ↔ x ∈ b) → a = b
  | [], [], _, _, _ => rfl
  | [], y :: b, _, _, h => by have := (h y).2 (by simp); cases this
  | x :: a, [], _, _, h => by have := (h x).1 (by simp); cases this
  | x :: a, y :: b, ha, hb, h => by
    rw [List.pairwise_cons] at ha hb
    have hxy : x = y := by
      have h1 := (h x).1 (by simp); have h2 := (h y).2 (by simp)
      rcases List.mem_cons.1 h1 with e | h1
      · exact e
      · rcases List.mem_cons.1 h2 with e | h2
        · exact e.symm
        · have := hb.1 x h1; have := ha.1 y h2; omega
    subst hxy
    congr 1
    refine up_eq ha.2 hb.2 fun z => ⟨fun hz => ?_, fun hz => ?_⟩
    · rcases List.mem_cons.1 ((h z).1 (by simp [hz])) with e | h1
      · have := ha.1 z hz; omega
      · exact h1
    · rcases List.mem_cons.1 ((h z).2 (by simp [hz])) with e | h1
      · have := hb.1 z hz; omega
      · exact h1

theorem fulls_mem {L : List Iv} {i : Iv} : i ∈ fulls L ↔ i ∈ L ∧ (i.w.length : Int) = i.b - i.a + 1 := by
  unfold fulls; rw [List.mem_filter]; simp [Iv.fullB]
theorem takes_iff {s : List Dom} {l : List Int} {L : List Iv} (hL : IvOk s l L) {x v : Int} (hx : x ∈ l) {i : Iv} (hi : i ∈ L) : takes l x v i = true ↔ i.a ≤ v ∧ v ≤ i.b ∧ ¬ inIv s i x := by
  unfold takes
  rw [(hL.mem i hi).2.1]
  simp only [Bool.and_eq_true, decide_eq_true_eq, Bool.not_eq_true', decide_eq_false_iff_not, own_in hx, inIv, and_assoc]
theorem find_one {α : Type} {p : α → Bool} {l : List α} {a : α} (h1 : ∃ i ∈ l, p i = true) (h2 : ∀ i ∈ l, p i = true → i = a) : l.find? p = some a := by
  cases h : l.find? p with
  | none =>
    obtain ⟨i, hi, hp⟩ := h1
    rw [List.find?_eq_none] at h; exact absurd hp (h i hi)
  | some b => rw [h2 b (List.mem_of_find?_eq_some h) (List.find?_some h)]

/-- What is known of the four domains. -/
structure S13 (s : List Dom) : Prop where
  n : s.length = 4
  v0 : valsB s 0 = [1, 2]
  v1 : valsB s 1 = [1, 2]
  v2 : valsB s 2 = [1, 2, 3, 4]
  v3 : valsB s 3 = [4]
theorem s13 : S13 (domsOf m13) := ⟨by decide +kernel, by decide +kernel, by decide +kernel, by decide +kernel, by decide +kernel⟩
section
variable {s : List Dom} (h : S13 s)
include h
theorem S13.lo0 : loB s 0 = 1 := by simp [loB, h.v0]
theorem S13.lo1 : loB s 1 = 1 := by simp [loB, h.v1]
theorem S13.lo2 : loB s 2 = 1 := by simp [loB, h.v2]
theorem S13.lo3 : loB s 3 = 4 := by simp [loB, h.v3]
theorem S13.hi0 : hiB s 0 = 2 := by simp [hiB, h.v0]
theorem S13.hi1 : hiB s 1 = 2 := by simp [hiB, h.v1]
theorem S13.hi2 : hiB s 2 = 4 := by simp [hiB, h.v2]
theorem S13.hi3 : hiB s 3 = 4 := by simp [hiB, h.v3]
theorem S13.p4 : placesB s [0, 1, 2, 3] = [0, 1, 2, 3] := by simp [placesB, isB, h.n]
theorem S13.p3 : placesB s [0, 1, 0] = [0, 1, 0] := by simp [placesB, isB, h.n]
theorem S13.ins4 (a b : Int) : insB s [0, 1, 2, 3] a b = (if a ≤ 1 ∧ 2 ≤ b then [0, 1] else []) ++ ((if a ≤ 1 ∧ 4 ≤ b then [2] else []) ++ (if a ≤ 4 ∧ 4 ≤ b then [3] else [])) := by
  unfold insB
  rw [show List.range [(0 : Int), 1, 2, 3].length = [0, 1, 2, 3] from rfl]
  simp only [List.filter_cons, List.filter_nil, List.getD_cons_zero, List.getD_cons_succ, h.lo0, h.lo1, h.lo2, h.lo3, h.hi0, h.hi1, h.hi2, h.hi3]
  by_cases h1 : a ≤ 1 <;> by_cases h2 : 2 ≤ b <;> by_cases h4 : a ≤ 4 <;> by_cases h3 : 4 ≤ b <;> first | omega | simp [h1, h2, h3, h4]
theorem S13.ins3 (a b : Int) : insB s [0, 1, 0] a b = if a ≤ 1 ∧ 2 ≤ b then [0, 1, 2] else [] := by
  unfold insB
  rw [show List.range [(0 : Int), 1, 0].length = [0, 1, 2] from rfl]
  simp only [List.filter_cons, List.filter_nil, List.getD_cons_zero, List.getD_cons_succ, h.lo0, h.lo1, h.hi0, h.hi1]
  by_cases h1 : a ≤ 1 <;> by_cases h2 : 2 ≤ b <;> simp [h1, h2]
theorem S13.ok4 {L : List Iv} (hL : IvOk s [0, 1, 2, 3] L) : ¬ overB L := by
  rintro ⟨i, hi, ho⟩
  obtain ⟨h1, h2, _⟩ := hL.mem i hi
  unfold Iv.over at ho
  rw [h2, h.ins4] at ho
  by_cases c1 : i.a ≤ 1 <;> by_cases c2 : 2 ≤ i.b <;> by_cases c3 : 4 ≤ i.b <;> by_cases c4 : i.a ≤ 4 <;> simp [c1, c2, c3, c4] at ho <;> omega
theorem S13.no3 {L : List Iv} (hL : IvOk s [0, 1, 0] L) : overB L := by
  obtain ⟨i, hi, ha, hb⟩ := hL.all 0 (by simp) 0 (by simp) (by rw [h.lo0, h.hi0]; omega)
  refine ⟨i, hi, ?_⟩
  rw [h.lo0] at ha; rw [h.hi0] at hb
  unfold Iv.over
  rw [(hL.mem i hi).2.1, h.ins3, ha, hb]; decide
theorem S13.f3 {L : List Iv} (hL : IvOk s [0, 1, 0] L) {i : Iv} (hi : i ∈ L) (ho : i.over) : hallV i [0, 1, 0] = hallCells 1 2 [0, 1, 0] := by
  obtain ⟨h1, h2, _⟩ := hL.mem i hi
  unfold Iv.over at ho
  rw [h2, h.ins3] at ho
  by_cases c : i.a ≤ 1 ∧ 2 ≤ i.b
  · simp [c] at ho
    have ea : i.a = 1 := by omega
    have eb : i.b = 2 := by omega
    unfold hallV hallX
    rw [h2, h.ins3, ea, eb]; rfl
  · simp [c] at ho; omega
theorem S13.full4 {L : List Iv} (hL : IvOk s [0, 1, 2, 3] L) {i : Iv} (hi : i ∈ fulls L) : i = ⟨1, 2, [0, 1]⟩ ∨ i = ⟨1, 4, [0, 1, 2, 3]⟩ ∨ i = ⟨4, 4, [3]⟩ := by
  obtain ⟨hi, hf⟩ := fulls_mem.1 hi
  obtain ⟨h1, h2, _⟩ := hL.mem i hi
  rw [h2, h.ins4] at hf
  obtain ⟨a, b, w⟩ := i
  simp only at h1 h2 hf ⊢
  rw [h.ins4] at h2
  by_cases c1 : a ≤ 1 <;> by_cases c2 : 2 ≤ b <;> by_cases c3 : 4 ≤ b <;> by_cases c4 : a ≤ 4 <;> simp [c1, c2, c3, c4] at hf h2 <;> first | omega | skip
  · obtain rfl : a = 1 := by omega
    obtain rfl : b = 4 := by omega
    exact .inr (.inl (by rw [h2]))
  · obtain rfl : a = 1 := by omega
    obtain rfl : b = 2 := by omega
    exact .inl (by rw [h2])
  · obtain rfl : a = 4 := by omega
    obtain rfl : b = 4 := by omega
    exact .inr (.inr (by rw [h2]))
theorem S13.told {L : List Iv} (hL : IvOk s [0, 1, 2, 3] L) {u : List Int} (hu : u.Pairwise (· < ·)) (hm : ∀ x, x ∈ u ↔ x ∈ [(0 : Int), 1, 2, 3]) :
    toldC (fulls L) s [0, 1, 2, 3] u = [⟨2, 1, 1, 2, [0, 1]⟩, ⟨2, 2, 1, 2, [0, 1]⟩, ⟨2, 4, 4, 4, [3]⟩] := by
  obtain rfl : u = [0, 1, 2, 3] := up_eq hu (by decide) hm
  obtain ⟨F, hF⟩ : ∃ F, F = fulls L := ⟨_, rfl⟩
  have hfm : ∀ i ∈ F, i ∈ L := fun i hi => by rw [hF] at hi; exact (fulls_mem.1 hi).1
  have hff : ∀ i ∈ F, i = ⟨1, 2, [0, 1]⟩ ∨ i = ⟨1, 4, [0, 1, 2, 3]⟩ ∨ i = ⟨4, 4, [3]⟩ := fun i hi => by rw [hF] at hi; exact h.full4 hL hi
  have e1 : (⟨1, 2, [0, 1]⟩ : Iv) ∈ F := by
    obtain ⟨i, hi, ha, hb⟩ := hL.all 0 (by simp) 0 (by simp) (by rw [h.lo0, h.hi0]; omega)
    rw [h.lo0] at ha; rw [h.hi0] at hb
    have hw := (hL.mem i hi).2.1
    rw [ha, hb, h.ins4] at hw
    obtain ⟨a, b, w⟩ := i
    simp only at ha hb hw
    subst ha hb hw
    rw [hF]; exact fulls_mem.2 ⟨hi, by decide⟩
  have e2 : (⟨4, 4, [3]⟩ : Iv) ∈ F := by
    obtain ⟨i, hi, ha, hb⟩ := hL.all 3 (by simp) 3 (by simp) (by rw [h.lo3, h.hi3]; omega)
    rw [h.lo3] at ha; rw [h.hi3] at hb
    have hw := (hL.mem i hi).2.1
    rw [ha, hb, h.ins4] at hw
    obtain ⟨a, b, w⟩ := i
    simp only at ha hb hw
    subst ha hb hw
    rw [hF]; exact fulls_mem.2 ⟨hi, by decide⟩
  rw [← hF]
  have tk : ∀ x ∈ [(0 : Int), 1, 2, 3], ∀ (v : Int), ∀ i ∈ F, takes [0, 1, 2, 3] x v i = true ↔ i.a ≤ v ∧ v ≤ i.b ∧ ¬ inIv s i x := fun x hx v i hi => takes_iff hL hx (hfm i hi)
  have none : ∀ x ∈ [(0 : Int), 1, 2, 3], ∀ (v : Int), (∀ i ∈ F, i.a ≤ v → v ≤ i.b → inIv s i x) → mkC F [0, 1, 2, 3] x v = none := fun x hx v hv => by
    have : F.find? (takes [0, 1, 2, 3] x v) = none := by
      rw [List.find?_eq_none]
      intro i hi ht
      obtain ⟨t1, t2, t3⟩ := (tk x hx v i hi).1 ht
      exact t3 (hv i hi t1 t2)
    unfold mkC; rw [this]; rfl
  have one : ∀ x ∈ [(0 : Int), 1, 2, 3], ∀ (v : Int) (j : Iv), j ∈ F → j.a ≤ v → v ≤ j.b → ¬ inIv s j x → (∀ i ∈ F, i.a ≤ v → v ≤ i.b → ¬ inIv s i x → i = j) → mkC F [0, 1, 2, 3] x v = some ⟨x, v, j.a, j.b, hallX j [0, 1, 2, 3]⟩ := fun x hx v j hj j1 j2 j3 hu => by
    have : F.find? (takes [0, 1, 2, 3] x v) = some j := find_one ⟨j, hj, (tk x hx v j hj).2 ⟨j1, j2, j3⟩⟩ fun i hi ht => by
      obtain ⟨t1, t2, t3⟩ := (tk x hx v i hi).1 ht
      exact hu i hi t1 t2 t3
    unfold mkC; rw [this]; rfl
  have n0 : ∀ v : Int, v ≤ 2 → mkC F [0, 1, 2, 3] 0 v = .none := fun v hv => none 0 (by simp) v fun i hi a1 a2 => by
    rcases hff i hi with rfl | rfl | rfl <;> unfold inIv <;> rw [h.lo0, h.hi0] <;> simp only at a1 a2 ⊢ <;> omega
  have n1 : ∀ v : Int, v ≤ 2 → mkC F [0, 1, 2, 3] 1 v = .none := fun v hv => none 1 (by simp) v fun i hi a1 a2 => by
    rcases hff i hi with rfl | rfl | rfl <;> unfold inIv <;> rw [h.lo1, h.hi1] <;> simp only at a1 a2 ⊢ <;> omega
  have n3 : mkC F [0, 1, 2, 3] 3 4 = .none := none 3 (by simp) 4 fun i hi a1 a2 => by
    rcases hff i hi with rfl | rfl | rfl <;> unfold inIv <;> rw [h.lo3, h.hi3] <;> simp only at a1 a2 ⊢ <;> omega
  have n23 : mkC F [0, 1, 2, 3] 2 3 = .none := none 2 (by simp) 3 fun i hi a1 a2 => by
    rcases hff i hi with rfl | rfl | rfl <;> unfold inIv <;> rw [h.lo2, h.hi2] <;> simp only at a1 a2 ⊢ <;> omega
  have n2 : ∀ v : Int, 1 ≤ v → v ≤ 2 → mkC F [0, 1, 2, 3] 2 v = some ⟨2, v, 1, 2, [0, 1]⟩ := fun v hv hv2 => one 2 (by simp) v ⟨1, 2, [0, 1]⟩ e1 hv hv2 (by unfold inIv; rw [h.lo2, h.hi2]; simp) fun i hi a1 a2 a3 => by
    unfold inIv at a3
    rw [h.lo2, h.hi2] at a3
    rcases hff i hi with rfl | rfl | rfl <;> simp only at a1 a2 a3 <;> first | rfl | omega
  have n24 : mkC F [0, 1, 2, 3] 2 4 = some ⟨2, 4, 4, 4, [3]⟩ := one 2 (by simp) 4 ⟨4, 4, [3]⟩ e2 (by simp) (by simp) (by unfold inIv; rw [h.lo2, h.hi2]; simp) fun i hi a1 a2 a3 => by
    unfold inIv at a3
    rw [h.lo2, h.hi2] at a3
    rcases hff i hi with rfl | rfl | rfl <;> simp only at a1 a2 a3 <;> first | rfl | omega
  unfold toldC
  simp only [List.flatMap_cons, List.flatMap_nil, h.v0, h.v1, h.v2, h.v3, List.filterMap_cons, List.filterMap_nil, n0 1 (by omega), n0 2 (by omega), n1 1 (by omega), n1 2 (by omega), n2 1 (by omega) (by omega), n2 2 (by omega) (by omega), n23, n24, n3, List.nil_append, List.append_nil]
end
end Go.Abs.G

namespace Go.Abs.G
open Go.Proofs
set_option linter.unusedVariables false
set_option linter.unusedSimpArgs false

section
variable {s : List Dom} (hT : Two s []) (h : S13 s)
include hT h
theorem known13_1 : DC Tryz.prog hall_Cuts.id [vInts [0, 1, 2, 3], .ptr 0 1 0 0] [ST s []] (fun r H => r = .tup [.view 7 (List.map Cs.cells [⟨2, 1, 1, 2, [0, 1]⟩, ⟨2, 2, 1, 2, [0, 1]⟩, ⟨2, 4, 4, 4, [3]⟩]), .bool true] ∧ H = [ST s []]) := by
  refine DC.mono (cuts13_spec hT [0, 1, 2, 3] (by decide)) fun r H ⟨⟨L, hL, hr⟩, hH⟩ => ⟨?_, hH⟩
  rw [h.p4] at hL hr
  rcases hr with ⟨ho, _⟩ | ⟨_, u, hu, hm, rfl⟩
  · exact (h.ok4 hL ho).elim
  · rw [h.told hL hu hm]
theorem known13_2 : DC Tryz.prog hall_Cuts.id [vInts [0, 1, 0], .ptr 0 1 0 0] [ST s []] (fun r H => r = .tup [nilS, .bool false] ∧ H = [ST s []]) := by
  refine DC.mono (cuts13_spec hT [0, 1, 0] (by decide)) fun r H ⟨⟨L, hL, hr⟩, hH⟩ => ⟨?_, hH⟩
  rw [h.p3] at hL hr
  rcases hr with ⟨ho, rfl⟩ | ⟨ho, _⟩
  · rfl
  · exact (ho (h.no3 hL)).elim
theorem known13_3 : DC Tryz.prog hall_Fails.id [vInts [0, 1, 0], .ptr 0 1 0 0] [ST s []] (fun r H => r = .tup [.agg (hallCells 1 2 [0, 1, 0]), .bool true] ∧ H = [ST s []]) := by
  refine DC.mono (fails_spec hT [0, 1, 0] (by decide)) fun r H ⟨⟨L, hL, hr⟩, hH⟩ => ⟨?_, hH⟩
  rw [h.p3] at hL hr
  rcases hr with ⟨i, hi, ho, rfl⟩ | ⟨ho, _⟩
  · rw [h.f3 hL hi ho]
  · exact (ho (h.no3 hL)).elim
end

theorem known13_spec : Pf Tryz.prog hallmarklaw13_known.id [] (.bool true) := by
  refine DC.of hallmarklaw13_known.ok (by simp) ?_
  unfold hallmarklaw13_known.ir
  have hnew := newT m13 m13_ok
  have hT := Two.new m13
  have hS := s13
  have p1 := known13_1 hT hS
  have p2 := known13_2 hT hS
  have p3 := known13_3 hT hS
  have q1 := sameHall13_spec 1 2 1 2 [0, 1, 0] [0, 1, 0] (by decide)
  have q2 := sameHall13_spec 1 2 1 2 [0, 1] [0, 1] (by decide)
  have q3 := sameHall13_spec 4 4 4 4 [3] [3] (by decide)
  generalize domsOf m13 = s at hnew hT p1 p2 p3
  clear hS hT
  simp only [vInts, hallCells, List.map_cons, List.map_nil, Cs.cells] at p1 p2 p3 q1 q2 q3
  refine vc_cut (At [] []) (by simp -dsimp [At]) ?_
  try clear h
  rintro ⟨sl, hp, bs⟩ ⟨rfl, h⟩
  simp only [sls_cons, sls_one, sls_nil] at h
  refine vc_cut (fun st => ∃ A, At [(1, .ptr 1 1 0 0)] [A, ST s []] st) ?_ ?_
  · simp -dsimp [h]
    refine gcallo (zs := [.agg [vVars m13.vars, nilS, .bool false, nilS]]) (H0 := [ST s []]) (r0 := .ptr 0 1 0 0) (DC.sub (.cons (.agg (.cons (.refl _) (.cons (.nil 10) (.cons (.refl _) (.cons (.nil 2) .nil))))) .nil) hnew) (by simp -dsimp [vVars, m13, Var.cells]) (by simp -dsimp [vVars]) (by simp) ?_
    simp -dsimp [At]
  rintro ⟨sl, hp, bs⟩ ⟨A, rfl, h⟩; simp only [sls_one] at h
  refine vc_cut (At [(1, .ptr 1 1 0 0)] [A, ST s []]) (by simp -dsimp [h, At]) ?_
  try clear h
  rintro ⟨sl, hp, bs⟩ ⟨rfl, h⟩
  simp only [sls_cons, sls_one, sls_nil] at h
  refine vc_cut (At [(1, .ptr 1 1 0 0), (2, .view 7 (List.map Cs.cells [⟨2, 1, 1, 2, [0, 1]⟩, ⟨2, 2, 1, 2, [0, 1]⟩, ⟨2, 4, 4, 4, [3]⟩])), (3, .bool true)] [A, ST s [], .res]) ?_ ?_
  · simp -dsimp [h]
    refine gcallm1 (p1) 1 (by simp -dsimp [h, addAll]) (by simp -dsimp [h]) (by simp) (by simp) (by simp) (by simp -dsimp [h, idx]) (by simp) ?_
    simp -dsimp [h, At, Cs.cells, vInts]
  try clear h
  rintro ⟨sl, hp, bs⟩ ⟨rfl, h⟩
  simp only [sls_cons, sls_one, sls_nil] at h
  obtain ⟨C, hC⟩ : ∃ C, C = V.view 7 (List.map Cs.cells [⟨2, 1, 1, 2, [0, 1]⟩, ⟨2, 2, 1, 2, [0, 1]⟩, ⟨2, 4, 4, 4, [3]⟩]) := ⟨_, rfl⟩
  rw [← hC] at h
  refine vc_cut (At [(1, .ptr 1 1 0 0), (2, C), (3, .bool true), (5, .bool false)] [A, ST s [], .res, .res]) ?_ ?_
  · simp -dsimp [h]
    refine gcallm1 (p2) 1 (by simp -dsimp [h, addAll]) (by simp -dsimp [h]) (by simp) (by simp) (by simp) (by simp -dsimp [h, idx]) (by simp) ?_
    simp -dsimp [h, At]
  try clear h
  rintro ⟨sl, hp, bs⟩ ⟨rfl, h⟩
  simp only [sls_cons, sls_one, sls_nil] at h
  obtain ⟨R, hR⟩ : ∃ R, R = O.mem false [] [hallCells 1 2 [0, 1, 0]] := ⟨_, rfl⟩
  refine vc_cut (At [(2, C), (3, .bool true), (5, .bool false), (6, .ptr 5 1 0 0), (7, .bool true)] [A, ST s [], .res, .res, .res, R]) ?_ ?_
  · simp -dsimp [h]
    refine gcallm1 (p3) 1 (by simp -dsimp [h, addAll]) (by simp -dsimp [h]) (by simp) (by simp) (by simp) (by simp -dsimp [h, idx]) (by simp) ?_
    simp -dsimp [h, At, hR, hallCells, vInts]
  try clear h
  rintro ⟨sl, hp, bs⟩ ⟨rfl, h⟩
  simp only [sls_cons, sls_one, sls_nil] at h
  refine vc_cut (At [(2, C)] [A, ST s [], .res, .res, .res, R, .res]) ?_ ?_
  · simp -dsimp [h, hC, hR, hallCells, vInts]
    refine gcall (q1) (by simp -dsimp [h, hC, hR, hallCells, vInts, At]) (by simp -dsimp [h, hC, hR, hallCells, vInts, At]) ?_
    simp -dsimp [h, hC, hR, hallCells, vInts, At]
  try clear h
  rintro ⟨sl, hp, bs⟩ ⟨rfl, h⟩
  simp only [sls_cons, sls_one, sls_nil] at h
  simp -dsimp [h, hC, hR, hallCells, vInts, Cs.cells]
  refine gcall (q2) (by simp -dsimp [h, hC, Cs.cells, vInts]) (by simp -dsimp [h, hC, Cs.cells, vInts]) ?_
  simp -dsimp [h, hC, Cs.cells, vInts]
  refine gcall (q3) (by simp -dsimp [h, hC, Cs.cells, vInts, hallmarklaw13_known.rs]) (by simp -dsimp [h, hC, Cs.cells, vInts, hallmarklaw13_known.rs]) ?_
  simp -dsimp [h, hC, Cs.cells, vInts, hallmarklaw13_known.rs]
end Go.Abs.G

namespace Go.Abs.G
open Go.Proofs
set_option linter.unusedVariables false
set_option linter.unusedSimpArgs false

section
variable {s : List Dom} {l : List Int} {L : List Iv} (hL : IvOk s l L) {u : List Int} (hu : ∀ x, x ∈ u ↔ x ∈ l)
include hL hu
theorem told_why {c : Cs} (hc : c ∈ toldC (fulls L) s l u) : c.x ∈ l ∧ c.v ∈ valsB s c.x ∧ ∃ i ∈ L, i.full ∧ i.a ≤ c.v ∧ c.v ≤ i.b ∧ ¬ inIv s i c.x ∧ c.fr = i.a ∧ c.to = i.b ∧ c.xs = hallX i l := by
  unfold toldC at hc
  obtain ⟨x, hx, hc⟩ := List.mem_flatMap.1 hc
  obtain ⟨v, hv, hc⟩ := List.mem_filterMap.1 hc
  unfold mkC at hc
  cases hf : (fulls L).find? (takes l x v) with
  | none => rw [hf] at hc; cases hc
  | some i =>
    rw [hf] at hc
    obtain rfl := Option.some.inj hc
    have hi := List.mem_of_find?_eq_some hf
    have ht := List.find?_some hf
    have hi2 : i ∈ L ∧ (i.w.length : Int) = i.b - i.a + 1 := by
      unfold fulls at hi
      have := List.mem_filter.1 hi
      exact ⟨this.1, by simpa [Iv.fullB] using this.2⟩
    have hxl := (hu x).1 hx
    unfold takes at ht
    rw [(hL.mem i hi2.1).2.1] at ht
    simp only [Bool.and_eq_true, decide_eq_true_eq, Bool.not_eq_true', decide_eq_false_iff_not, own_in hxl] at ht
    exact ⟨hxl, hv, i, hi2.1, hi2.2, ht.1.1, ht.1.2, ht.2, rfl, rfl, rfl⟩
theorem told_goes {c : Cs} (hc : c ∈ toldC (fulls L) s l u) : goesH s l L c.x c.v := by
  obtain ⟨h1, h2, i, hi, h3, h4, h5, h6, _⟩ := told_why hL hu hc
  exact ⟨h1, h2, i, hi, h3, h4, h5, h6⟩
end

def valL (vs : List Int) (x : Int) : Int := vs.getD x.toNat 0
theorem clash_symm {vs : List Int} {x y : Int} (h : clash vs x y) : clash vs y x := ⟨h.2.2.1, h.2.2.2.1, h.1, h.2.1, h.2.2.2.2.symm⟩
theorem diff_iff {s : List Dom} {xs vs : List Int} (hn : vs.length = s.length) : Diff xs vs ↔ ((placesB s xs).map (valL vs)).Nodup := by
  have e1 : Diff xs vs ↔ xs.Pairwise fun x y => ¬ clash vs x y := by
    rw [List.pairwise_iff_getElem]
    constructor
    · intro h k i hk hi hki hc
      exact h i k xs[i] xs[k] hki (List.getElem?_eq_getElem hi) (List.getElem?_eq_getElem hk) (clash_symm hc)
    · intro h i k x y hki hx hy hc
      obtain ⟨hi, rfl⟩ := List.getElem?_eq_some_iff.1 hx
      obtain ⟨hk, rfl⟩ := List.getElem?_eq_some_iff.1 hy
      exact h k i hk hi hki (clash_symm hc)
  rw [e1, List.nodup_iff_pairwise_ne, List.pairwise_map]
  unfold placesB
  rw [List.pairwise_filter]
  constructor
  · intro h
    refine h.imp fun {x y} hc hx hy e => hc ?_
    have h1 := isB_iff.1 hx; have h2 := isB_iff.1 hy
    exact ⟨h1.1, by rw [hn]; exact h1.2, h2.1, by rw [hn]; exact h2.2, e⟩
  · intro h
    refine h.imp fun {x y} hc hcl => ?_
    obtain ⟨c1, c2, c3, c4, c5⟩ := hcl
    rw [hn] at c2 c4
    exact hc (isB_iff.2 ⟨c1, c2⟩) (isB_iff.2 ⟨c3, c4⟩) c5

/-- One value made of a variable's. -/
def fixS (s : List Dom) (x v : Int) : List Dom := (cutS (cutS s 1 x v).1 2 x v).1
theorem fix_len (s : List Dom) (x v : Int) : (fixS s x v).length = s.length := by simp [fixS, cutS_len]
theorem fix_two {s : List Dom} {ms : List (List Dom)} (h : Two s ms) (x v : Int) : Two (fixS s x v) ms := (h.cut 1 x v).cut 2 x v
theorem fix_vals {s : List Dom} {ms : List (List Dom)} (h : Two s ms) {x v : Int} (hv : v ∈ valsB s x) (y : Int) : valsB (fixS s x v) y = if y = x then [v] else valsB s y := by
  have h1 : v ∈ leftR 1 v (valsB s x) := List.mem_filter.2 ⟨hv, by simp [goesB]⟩
  have e1 : ∀ y, valsB (cutS s 1 x v).1 y = if y = x then leftR 1 v (valsB s x) else valsB s y := fun y => by
    rw [cut_rows h.d]
    by_cases hy : y = x
    · rw [if_pos ⟨hy, List.ne_nil_of_mem h1⟩, if_pos hy]
    · rw [if_neg (fun e => hy e.1), if_neg hy]
  have ex : valsB (cutS s 1 x v).1 x = leftR 1 v (valsB s x) := by rw [e1, if_pos rfl]
  have h2 : v ∈ leftR 2 v (leftR 1 v (valsB s x)) := List.mem_filter.2 ⟨h1, by simp [goesB]⟩
  have e3 : leftR 2 v (leftR 1 v (valsB s x)) = [v] := by
    refine up_eq ?_ (by simp) fun w => ⟨fun hw => ?_, fun hw => ?_⟩
    · exact ((valsB_up s x).filter _).filter _
    · obtain ⟨hw1, hw2⟩ := List.mem_filter.1 hw
      obtain ⟨hw3, hw4⟩ := List.mem_filter.1 hw1
      simp [goesB] at hw2 hw4
      have : w = v := by omega
      simp [this]
    · rw [List.mem_singleton.1 hw]; exact h2
  unfold fixS
  rw [cut_rows (h.cut 1 x v).d, ex, e3, e1]
  by_cases hy : y = x <;> simp [hy]
end Go.Abs.G

namespace Go.Abs.G
open Go.Proofs
set_option linter.unusedVariables false
set_option linter.unusedSimpArgs false

theorem len_nil (xs : List Int) (m : Model) (hm : okModel m) : DP Tryz.prog hallmarklaw13_few.id [.agg m.cells, nilS, vInts xs] (fun r => ∃ b, r = .bool b ∧ (b = true → xs.length ≤ 70)) :=
  DC.sub (.cons (.refl _) (.cons (.nil 3) (.cons (.refl _) .nil))) (few13_spec m [] xs hm (by simp))

theorem ends13_law (m : Model) (xs any : List Int) (hm : zModel m) (hx : zInts xs) (ha : zInts any) : Pf Tryz.prog hallmarklaw13_HallEnds.id [.agg m.cells, vInts xs, vInts any] (.bool true) := by
  refine DC.of hallmarklaw13_HallEnds.ok (by simp) ?_
  unfold hallmarklaw13_HallEnds.ir
  obtain ⟨B, hB⟩ : ∃ B, B = O.mem false [] [m.cells] := ⟨_, rfl⟩
  have hBr : B.refs = [] := by rw [hB]; rfl
  refine vc_cut (At [(1, vInts xs), (2, vInts any), (3, .ptr 0 1 0 0)] [B]) (by simp -dsimp [At, hB, Model.cells, vVars, vCons, vTerms]) ?_
  try clear h
  rintro ⟨sl, hp, bs⟩ ⟨rfl, h⟩
  simp only [sls_cons, sls_one, sls_nil] at h
  refine vc_cut (fun st => xs.length ≤ 70 ∧ any.length ≤ 20000 ∧ At [(1, vInts xs), (2, vInts any), (3, .ptr 0 1 0 0)] [B] st) ?_ ?_
  · simp -dsimp [h, hB, Model.cells, vVars, vCons, vTerms]
    refine gcall_gen (len_nil xs m hm.1) (by simp -dsimp [h, Model.cells, vVars, vCons, vTerms]) (by simp [Model.cells, vVars, vCons, vTerms, vInts]) ?_
    rintro r ⟨b, rfl, hb⟩
    by_cases hal : 20000 < any.length
    · have hal' : 20000 < (any.length : Int) := by omega
      cases b <;> simp -dsimp [h, vInts, hal, hal', hallmarklaw13_HallEnds.rs]
    · have hal' : ¬ 20000 < (any.length : Int) := by omega
      cases b
      · simp -dsimp [h, vInts, hal, hal', hallmarklaw13_HallEnds.rs]
      · simp -dsimp [h, vInts, hal, hal', At, hB, Model.cells, vVars, vCons, vTerms]
        exact ⟨hb rfl, by omega⟩
  rintro ⟨sl, hp, bs⟩ ⟨hx70, hal, rfl, h⟩; simp only [sls_cons, sls_one] at h
  refine vc_cut (At [(1, vInts xs), (2, vInts any), (3, .ptr 0 1 0 0)] [B]) ?_ ?_
  · simp -dsimp [h]
    refine gcall known13_spec (by simp -dsimp [h]) (by simp -dsimp [h]) ?_
    simp -dsimp [h, At]
  try clear h
  rintro ⟨sl, hp, bs⟩ ⟨rfl, h⟩
  simp only [sls_cons, sls_one, sls_nil] at h
  obtain ⟨s, hs⟩ : ∃ s, s = domsOf m := ⟨_, rfl⟩
  have hT : Two s [] := by rw [hs]; exact Two.new m
  have hn := hT.n
  have hnew := newT m hm.1
  rw [← hs] at hnew
  refine vc_cut (At [(1, vInts xs), (2, vInts any), (7, .ptr 1 1 0 0)] [B, ST s []]) ?_ ?_
  · simp -dsimp [h, hB, Model.cells, vVars, vCons, vTerms]
    refine gcallo hnew (by simp -dsimp [h, Model.cells, vVars, vCons, vTerms]) (by simp [Model.cells, vVars, vCons, vTerms]) (by simp) ?_
    simp -dsimp [h, At, hB, Model.cells, vVars, vCons, vTerms]
  try clear h
  rintro ⟨sl, hp, bs⟩ ⟨rfl, h⟩
  simp only [sls_cons, sls_one, sls_nil] at h
  refine vc_cut (At [(1, vInts xs), (2, vInts any), (7, .ptr 1 1 0 0)] [B, ST s []]) (by simp -dsimp [h, At]) ?_
  try clear h
  rintro ⟨sl, hp, bs⟩ ⟨rfl, h⟩
  simp only [sls_cons, sls_one, sls_nil] at h
  obtain ⟨vs, hvs⟩ : ∃ vs, vs = withinW s any s.length := ⟨_, rfl⟩
  have hvl : vs.length = s.length := by rw [hvs]; simp [withinW]
  have hvm : ∀ x (hx : x < vs.length), vs[x] ∈ valsB s x := fun x hx => by
    have : vs[x] = valW s any x := by simp [hvs, withinW]
    rw [this]; exact valW_mem hT.d any (by omega)
  have hw13 := within13_spec hT any (by omega)
  rw [← hvs] at hw13
  refine vc_cut (At [(1, vInts xs), (7, .ptr 1 1 0 0), (8, vInts vs)] [B, ST s []]) ?_ ?_
  · simp -dsimp [h]
    refine gcallm1 hw13 1 (by simp -dsimp [h, addAll, vInts]) (by simp -dsimp [h]) (by simp) (by simp) (by simp) (by simp -dsimp [h, idx, vInts]) (by simp) ?_
    simp -dsimp [h, At, vInts]
  try clear h
  rintro ⟨sl, hp, bs⟩ ⟨rfl, h⟩
  simp only [sls_cons, sls_one, sls_nil] at h
  refine vc_cut (fun st => ∃ t, t.length = s.length ∧ Two t [] ∧ (∀ x, x < vs.length → valsB t x = [vs.getD x 0]) ∧ At [(1, vInts xs), (7, .ptr 1 1 0 0), (8, vInts vs)] [B, ST t []] st) ?_ ?_
  · refine vc_cut (At [(1, vInts xs), (7, .ptr 1 1 0 0), (8, vInts vs), (9, V.i 0)] [B, ST s []]) (by simp -dsimp [h, At]) ?_
    try clear h
    rintro ⟨sl, hp, bs⟩ ⟨rfl, h⟩
    simp only [sls_cons, sls_one, sls_nil] at h
    refine vc_block_of (vc_upto 2 (by simp) vs.length (fun i st => ∃ t, t.length = s.length ∧ Two t [] ∧ (∀ x, x < vs.length → valsB t x = if x < i then [vs.getD x 0] else valsB s x) ∧ At [(1, vInts xs), (7, .ptr 1 1 0 0), (8, vInts vs), (9, V.i i)] [B, ST t []] st) ⟨s, rfl, hT, by simp, rfl, by simpa using h⟩ ?_)
    clear h
    rintro i ⟨sl, hp, bs⟩ hi ⟨t, htl, htT, htv, rfl, h⟩
    simp only [sls_cons, sls_one] at h
    unfold hallmarklaw13_HallEnds.b0
    by_cases hil : i < vs.length
    · have hil' : (i : Int) < vs.length := by omega
      have hw : IntKind.i64.wrap ((i : Int) + 1) = ((i + 1 : Nat) : Int) := by rw [wrap64] <;> omega
      have hvi := hvm i hil
      obtain ⟨v, hv⟩ : ∃ v, v = vs[i] := ⟨_, rfl⟩
      have hgd : vs.getD i 0 = v := by simp [List.getD, hil, hv]
      have hvt : v ∈ valsB t i := by rw [htv i hil, if_neg (by omega), hv]; exact hvi
      have c1 := cutT htT 1 i v
      have c2 := cutT (htT.cut 1 i v) 2 i v
      have hfix := fix_vals htT hvt
      have hfT := fix_two htT i v
      have hfl := fix_len t i v
      unfold fixS at hfix hfT hfl
      simp -dsimp [h, hil, hil', vInts, ← hv]
      refine gcallm1 (c1) 1 (by simp -dsimp [h, addAll]) (by simp -dsimp [h]) (by simp) (by simp) (by simp) (by simp -dsimp [h, idx]) (by simp) ?_
      simp -dsimp [h, hil, hil', vInts, ← hv]
      refine gcallm1 (c2) 1 (by simp -dsimp [h, addAll]) (by simp -dsimp [h]) (by simp) (by simp) (by simp) (by simp -dsimp [h, idx]) (by simp) ?_
      simp -dsimp [h, hil, hil', vInts, At, hw, hBr]
      refine ⟨_, by rw [hfl]; exact htl, hfT, fun x hx => ?_, rfl⟩
      rw [hfix]
      by_cases hxi : x = i
      · subst hxi; simp only [if_pos, Nat.lt_succ_self]; rw [← hgd]; rfl
      · have : ¬ (x : Int) = i := by omega
        rw [if_neg this, htv x hx]
        by_cases hxl : x < i
        · rw [if_pos hxl, if_pos (by omega)]; rfl
        · rw [if_neg hxl, if_neg (by omega)]
    · have hil' : ¬ (i : Int) < vs.length := by omega
      simp -dsimp [h, hil', vInts, At]
      exact ⟨t, htl, htT, fun x hx => by rw [htv x hx, if_pos (by omega)]; rfl, rfl⟩
  clear h
  rintro ⟨sl, hp, bs⟩ ⟨t, htl, htT, htv, rfl, h⟩; simp only [sls_cons, sls_one] at h
  have hlB : ∀ x ∈ placesB t xs, isB t x = true := fun x hx => placesB_is hx
  have hval : ∀ x ∈ placesB t xs, valsB t x = [valL vs x] := fun x hx => by
    obtain ⟨h1, h2⟩ := isB_iff.1 (hlB x hx)
    have := htv x.toNat (by omega)
    rw [show ((x.toNat : Nat) : Int) = x from Int.toNat_of_nonneg h1] at this
    exact this
  have hd := diff_iff (s := t) (xs := xs) (vs := vs) (by omega)
  have hdf := different_spec xs vs (by omega) (by omega)
  refine vc_cut (fun st => ∃ (b : Bool) (n : Nat) (r : V), (b = true ↔ Diff xs vs) ∧ At [(1, vInts xs), (8, vInts vs), (10, r), (11, .bool b)] [B, ST t []] st ∧ (r = nilS ∨ r = .view 7 [])) ?_ ?_
  · simp -dsimp [h]
    refine gcallm_gen (cuts13_spec htT xs (by omega)) [1] (by simp -dsimp [h, addAll, vInts]) ⟨by simp, by simp, by simp, by simp⟩ (by simp -dsimp [h, idx, List.idxOf_cons, vInts]) (by simp [sub]) (by simp) ?_
    rintro r H ⟨⟨L, hL, hr⟩, rfl⟩
    have ho := ends_over htT.d hlB hL hval
    rcases hr with ⟨ho', rfl⟩ | ⟨ho', u, hu, hum, rfl⟩
    · simp -dsimp [h, merge, place, back, At, vInts]
      rw [hd]; exact ho.1 ho'
    · have hnil : toldC (fulls L) t (placesB t xs) u = [] := by
        refine List.eq_nil_iff_forall_not_mem.2 fun c hc => ?_
        exact ends_goes htT.d hlB hL hval (told_goes hL hum hc)
      rw [hnil]
      simp -dsimp [h, merge, place, back, At, vInts]
      rw [hd]
      exact Classical.byContradiction fun e => ho' (ho.2 e)
  clear h
  rintro ⟨sl, hp, bs⟩ ⟨b, n, r, hb, ⟨rfl, h⟩, hr⟩; simp only [sls_cons, sls_one] at h
  simp -dsimp [h]
  refine gcall_gen hdf (by simp -dsimp [h]) (by simp [vInts]) ?_
  rintro r' ⟨b', rfl, hb'⟩
  have hbb : b = b' := by
    cases b <;> cases b' <;> simp_all
  subst hbb
  rcases hr with rfl | rfl <;> simp -dsimp [h, hallmarklaw13_HallEnds.rs]
end Go.Abs.G
