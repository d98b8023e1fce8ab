import Derived.Test.YtbmcfbemmjojlaaGreatA4
set_option linter.all false
/- What the reference's store tells is what the store tells. -/
namespace Go.Abs.G
set_option linter.unusedVariables false
set_option linter.unusedSimpArgs false

structure DG (x : Dom) : Prop where
  ok : x.ok
  full : ∀ i, i < 64 → x.width ≤ i → x.has i = false
  ne : x.none = false
def refD (s : List Dom) : List (List Int) := s.map fun x => x.vals x.width

theorem refD_len (s : List Dom) : (refD s).length = s.length := by simp [refD]
theorem is_ref (s : List Dom) (x : Int) : isR (refD s) x = isB s x := by simp [isR, isB, refD_len]
theorem row_ref (s : List Dom) (x : Int) : rowR (refD s) x = valsB s x := by
  unfold rowR valsB
  rw [is_ref]
  by_cases h : isB s x = true
  · rw [if_pos h, if_pos h]; simp [refD, List.getElem?_map]
  · rw [if_neg h, if_neg h]
theorem size_has {x : Dom} (h : x.ok) : x.size = (List.range 64).countP x.has := by
  have e : (List.range 64) = List.range 32 ++ (List.range 32).map (32 + ·) := by rw [← List.range_add]
  rw [e, List.countP_append, List.countP_map]
  unfold Dom.size pop
  have h1 : (List.range 32).countP x.has = (List.range 32).countP x.a.testBit := List.countP_congr fun i hi => by
    have : i < 32 := by simpa using hi
    simp [Dom.has, this]
  have h2 : (List.range 32).countP (x.has ∘ (32 + ·)) = (List.range 32).countP x.b.testBit := List.countP_congr fun i hi => by
    have h2 : ¬ 32 + i < 32 := by omega
    simp [Dom.has, h2, Function.comp]
  rw [h1, h2]
theorem size_ref {x : Dom} (h : DG x) : x.size = (x.vals x.width).length := by
  have hw := h.ok.w
  obtain ⟨r, hr⟩ : ∃ r, 64 = x.width + r := ⟨64 - x.width, by omega⟩
  rw [size_has h.ok, hr, List.range_add, List.countP_append, List.countP_map]
  have : (List.range r).countP (x.has ∘ (x.width + ·)) = 0 := by
    rw [List.countP_eq_zero]
    intro i hi
    have : i < r := by simpa using hi
    simp [h.full (x.width + i) (by omega) (by omega)]
  rw [this, Dom.vals, List.length_map, List.countP_eq_length_filter, Nat.add_zero]
theorem mem_vals {x : Dom} {v : Int} : v ∈ x.vals x.width ↔ ∃ i : Nat, i < x.width ∧ x.has i = true ∧ v = x.from' + i := by
  simp only [Dom.vals, List.mem_map, List.mem_filter, List.mem_range]
  constructor
  · rintro ⟨i, ⟨a, b⟩, c⟩; exact ⟨i, a, b, c.symm⟩
  · rintro ⟨i, a, b, c⟩; exact ⟨i, ⟨a, b⟩, c.symm⟩
theorem open_ref {s : List Dom} (h : ∀ d ∈ s, DG d) : ∀ n, openB s n = openR (refD s) n := fun n => by
  unfold openB openR
  congr 1
  refine List.filter_congr fun i hi => ?_
  simp only [refD, List.getElem?_map]
  cases hs : s[i]? with
  | none => simp
  | some d => simp [size_ref (h d (List.mem_of_getElem? hs))]
end Go.Abs.G


namespace Go.Abs.G
set_option linter.unusedVariables false
set_option linter.unusedSimpArgs false

theorem vals_range {x : Dom} (h : ∀ i, i < x.width → x.has i = true) : x.vals x.width = (List.range x.width).map fun (i : Nat) => x.from' + (i : Int) := by
  unfold Dom.vals
  rw [List.filter_eq_self.2 (fun i hi => h i (by simpa using hi))]
theorem new_ref (m : Model) : refD (domsOf m) = refOf m := by
  unfold domsOf refOf
  by_cases hz : (checkB m).2 = 0
  · have hR : Right m := right_iff.1 (by simp [rightB, hz])
    rw [if_pos hz, if_pos hz]
    unfold refD
    rw [List.map_map]
    refine List.map_congr_left fun v hv => ?_
    obtain ⟨i, hi⟩ := List.getElem?_of_mem hv
    have hvo := VarOk.of (hR.var i v hi)
    simp only [Function.comp]
    rw [vals_range (fun i hi => domOf_has hvo hi), domOf_from, domOf_width]
    rfl
  · rw [if_neg hz, if_neg hz]; rfl

theorem none_has {d : Dom} (h : d.none = true) (i : Nat) : d.has i = false := by
  simp [Dom.none] at h
  unfold Dom.has
  rw [h.1, h.2]
  split <;> simp
theorem has_eq {d e : Dom} (hd : d.ok) (he : e.ok) (h : ∀ i, i < 64 → d.has i = e.has i) : d.a = e.a ∧ d.b = e.b := by
  constructor
  · refine Nat.eq_of_testBit_eq fun i => ?_
    by_cases hi : i < 32
    · have := h i (by omega); simpa [Dom.has, hi] using this
    · rw [Nat.testBit_lt_two_pow (Nat.lt_of_lt_of_le (show d.a < 2 ^ 32 from hd.a) (Nat.pow_le_pow_right (by omega) (by omega : 32 ≤ i))), Nat.testBit_lt_two_pow (Nat.lt_of_lt_of_le (show e.a < 2 ^ 32 from he.a) (Nat.pow_le_pow_right (by omega) (by omega : 32 ≤ i)))]
  · refine Nat.eq_of_testBit_eq fun i => ?_
    by_cases hi : i < 32
    · have := h (32 + i) (by omega); have h2 : ¬ 32 + i < 32 := by omega
      simpa [Dom.has, h2] using this
    · rw [Nat.testBit_lt_two_pow (Nat.lt_of_lt_of_le (show d.b < 2 ^ 32 from hd.b) (Nat.pow_le_pow_right (by omega) (by omega : 32 ≤ i))), Nat.testBit_lt_two_pow (Nat.lt_of_lt_of_le (show e.b < 2 ^ 32 from he.b) (Nat.pow_le_pow_right (by omega) (by omega : 32 ≤ i)))]

section
variable {d : Dom} (h : DG d) (k v : Int)
include h
theorem cut_has (i : Nat) (hi : i < 64) : (cutTo k v d d.width).has i = (d.has i && !(decide (i < d.width) && goesB k v (d.from' + i))) := cutTo_has k v h.ok d.width h.ok.w i hi
theorem cut_vals : (cutTo k v d d.width).vals (cutTo k v d d.width).width = leftR k v (d.vals d.width) := by
  have hw := h.ok.w
  rw [cutTo_width]
  unfold Dom.vals leftR
  rw [List.filter_map, List.filter_filter, cutTo_from]
  congr 1
  refine List.filter_congr fun i hi => ?_
  have hi : i < d.width := by simpa using hi
  rw [cut_has h k v i (by omega)]
  simp [hi, Function.comp, Bool.and_comm]
theorem cut_none : (cutTo k v d d.width).none = decide (leftR k v (d.vals d.width) = []) := by
  have hw := h.ok.w
  have hok := cutTo_ok k v h.ok d.width
  rw [← cut_vals h k v, Bool.eq_iff_iff, decide_eq_true_eq]
  constructor
  · intro hn
    refine List.eq_nil_iff_forall_not_mem.2 fun u hu => ?_
    obtain ⟨i, a, b, c⟩ := mem_vals.1 hu
    rw [none_has hn] at b; cases b
  · intro he
    have : (cutTo k v d d.width).a = 0 ∧ (cutTo k v d d.width).b = 0 := has_eq (e := ⟨d.from', d.width, 0, 0⟩) hok ⟨h.ok.f, h.ok.w, by simp, by simp⟩ fun i hi => by
      have hz : (⟨d.from', d.width, 0, 0⟩ : Dom).has i = false := none_has rfl i
      rw [hz]
      by_cases hiw : i < d.width
      · cases hb : (cutTo k v d d.width).has i
        · rfl
        · have := mem_vals.2 ⟨i, by rw [cutTo_width]; exact hiw, hb, rfl⟩
          rw [he] at this; cases this
      · rw [cut_has h k v i hi, h.full i hi (by omega)]; rfl
    simp [Dom.none, this]
theorem cut_same : (!(cutTo k v d d.width).same d) = decide ((leftR k v (d.vals d.width)).length < (d.vals d.width).length) := by
  have hw := h.ok.w
  have hok := cutTo_ok k v h.ok d.width
  cases hs : (cutTo k v d d.width).same d
  · symm
    simp only [Bool.not_false, decide_eq_true_eq]
    refine Nat.lt_of_le_of_ne (leftR_len k v _) fun e => ?_
    have hall : leftR k v (d.vals d.width) = d.vals d.width := List.filter_sublist.eq_of_length e
    have := has_eq hok h.ok fun i hi => by
      by_cases hiw : i < d.width
      · rw [cut_has h k v i hi]
        cases hb : d.has i
        · rfl
        · have hm : d.from' + (i : Int) ∈ d.vals d.width := mem_vals.2 ⟨i, hiw, hb, rfl⟩
          rw [← hall] at hm
          have := (List.mem_filter.1 hm).2
          simp at this
          simp [this]
      · rw [cut_has h k v i hi, h.full i hi (by omega)]; rfl
    simp [Dom.same, this] at hs
  · symm
    simp only [Bool.not_true, decide_eq_false_iff_not]
    simp [Dom.same] at hs
    have : leftR k v (d.vals d.width) = d.vals d.width := by
      rw [← cut_vals h k v]
      refine vals_eq (cutTo_from k v d d.width) (cutTo_width k v d d.width) fun i _ => ?_
      unfold Dom.has; rw [hs.1, hs.2]
    rw [this]; omega
theorem cut_DG (hn : leftR k v (d.vals d.width) ≠ []) : DG (cutTo k v d d.width) := by
  refine ⟨cutTo_ok k v h.ok d.width, fun i hi hw => ?_, ?_⟩
  · rw [cutTo_width] at hw
    rw [cut_has h k v i hi, h.full i hi hw]; rfl
  · rw [cut_none h k v]; simpa using hn
end

theorem cut_ref {s : List Dom} (hs : ∀ d ∈ s, DG d) (k x v : Int) : cutR (refD s) k x v = (refD (cutS s k x v).1, (cutS s k x v).2) ∧ ∀ d ∈ (cutS s k x v).1, DG d := by
  unfold cutR cutS
  rw [is_ref]
  by_cases hb : isB s x = true
  · have hb2 := hb
    simp [isB] at hb2
    have hlt : x.toNat < s.length := by omega
    obtain ⟨d, hd⟩ : ∃ d, s[x.toNat]? = some d := ⟨_, List.getElem?_eq_getElem hlt⟩
    have hdg := hs d (List.mem_of_getElem? hd)
    have hrow : rowR (refD s) x = d.vals d.width := by
      rw [row_ref]; unfold valsB; rw [if_pos hb, hd]; rfl
    rw [hrow, hb, if_neg (by simp), if_pos rfl, hd]
    simp only [cut_none hdg k v, cut_same hdg k v, decide_eq_true_eq]
    by_cases hn : leftR k v (d.vals d.width) = []
    · rw [if_pos hn, if_pos hn]
      exact ⟨rfl, hs⟩
    · rw [if_neg hn, if_neg hn]
      refine ⟨?_, fun e he => ?_⟩
      · simp only [refD, List.map_set, cut_vals hdg k v]
      · rcases List.mem_or_eq_of_mem_set he with h | h
        · exact hs e h
        · rw [h]; exact cut_DG hdg k v hn
  · have hf : isB s x = false := by simpa using hb
    rw [hf]
    simp
    exact hs
theorem DG.dok {s : List Dom} (hn : s.length ≤ 64) (hs : ∀ d ∈ s, DG d) : DOk (refD s) := by
  refine ⟨by rw [refD_len]; exact hn, fun l hl => ?_⟩
  simp only [refD, List.mem_map] at hl
  obtain ⟨d, hd, rfl⟩ := hl
  have hg := hs d hd
  refine ⟨?_, Nat.le_trans (vals_len d d.width) hg.ok.w⟩
  rw [← size_ref hg]
  refine Nat.pos_of_ne_zero fun h0 => ?_
  rw [size_has hg.ok, List.countP_eq_zero] at h0
  have := has_eq (e := ⟨d.from', d.width, 0, 0⟩) hg.ok ⟨hg.ok.f, hg.ok.w, by simp, by simp⟩ fun i hi => by
    rw [show (⟨d.from', d.width, 0, 0⟩ : Dom).has i = false from none_has rfl i]
    simpa using h0 i (by simpa using hi)
  have hne := hg.ne
  simp [Dom.none, this] at hne
end Go.Abs.G


namespace Go.Abs.G
set_option linter.unusedVariables false
set_option linter.unusedSimpArgs false

theorem domOf_DG {v : Var} (h : VarOk v) : DG (domOf v) := by
  have hok := dom0_ok h
  refine ⟨fillTo_ok hok _, fun i hi hw => ?_, none_of_has (domOf_has h (i := 0) ?_)⟩
  · rw [domOf_width] at hw
    unfold domOf
    rw [fillTo_has hok (dom0 v).width hok.w i hi]
    have hz : (dom0 v).has i = false := none_has rfl i
    have : ¬ i < (dom0 v).width := by simp only [dom0]; omega
    rw [hz]; simp [this]
  · rw [domOf_width]
    obtain ⟨a, b, c, e⟩ := h
    omega
theorem doms_DG (m : Model) : ∀ d ∈ domsOf m, DG d := by
  unfold domsOf
  by_cases hz : (checkB m).2 = 0
  · have hR : Right m := right_iff.1 (by simp [rightB, hz])
    rw [if_pos hz]
    intro d hd
    simp only [List.mem_map] at hd
    obtain ⟨v, hv, rfl⟩ := hd
    obtain ⟨i, hi⟩ := List.getElem?_of_mem hv
    exact domOf_DG (VarOk.of (hR.var i v hi))
  · rw [if_neg hz]; intro d hd; cases hd
theorem doms_len (m : Model) : (domsOf m).length ≤ 64 := by
  unfold domsOf
  by_cases hz : (checkB m).2 = 0
  · have hR : Right m := right_iff.1 (by simp [rightB, hz])
    have := hR.nv
    rw [if_pos hz, List.length_map]; omega
  · rw [if_neg hz]; simp

/-- Both stores, with all marks, tell the same. -/
structure Two (s : List Dom) (ms : List (List Dom)) : Prop where
  n : s.length ≤ 64
  k : ms.length ≤ 1000000
  d : ∀ d ∈ s, DG d
  m : ∀ L ∈ ms, L.length ≤ 64 ∧ ∀ d ∈ L, DG d
theorem Two.sok {s : List Dom} {ms : List (List Dom)} (h : Two s ms) : SOk s ms := ⟨h.n, h.k, fun d hd => (h.d d hd).ok⟩
theorem Two.rok {s : List Dom} {ms : List (List Dom)} (h : Two s ms) : ROk (refD s) (ms.map refD) := ⟨DG.dok h.n h.d, by simpa using h.k, fun e he => by
  simp only [List.mem_map] at he
  obtain ⟨L, hL, rfl⟩ := he
  exact DG.dok (h.m L hL).1 (h.m L hL).2⟩
theorem Two.new (m : Model) : Two (domsOf m) [] := ⟨doms_len m, by simp, doms_DG m, fun L hL => by cases hL⟩
theorem Two.cut {s : List Dom} {ms : List (List Dom)} (h : Two s ms) (k x v : Int) : Two (cutS s k x v).1 ms := ⟨by rw [cutS_len]; exact h.n, h.k, (cut_ref h.d k x v).2, h.m⟩
theorem Two.mark {s : List Dom} {ms : List (List Dom)} (h : Two s ms) (hk : ms.length + 1 ≤ 1000000) : Two s (ms ++ [s]) := ⟨h.n, by simpa using hk, h.d, fun L hL => by
  rcases List.mem_append.1 hL with hL | hL
  · exact h.m L hL
  · rw [List.mem_singleton.1 hL]; exact ⟨h.n, h.d⟩⟩
theorem Two.back {s : List Dom} {ms : List (List Dom)} (h : Two s ms) {j : Nat} (hj : j < ms.length) : Two ms[j] (ms.take j) := ⟨(h.m _ (List.getElem_mem hj)).1, Nat.le_trans (by simp; omega) h.k, (h.m _ (List.getElem_mem hj)).2, fun L hL => h.m L (List.mem_of_mem_take hL)⟩
end Go.Abs.G


/- Both stores under one name each, with their calls. -/
namespace Go.Abs.G
open Go.Proofs
set_option linter.unusedVariables false
set_option linter.unusedSimpArgs false

theorem vals_ne {s : List Dom} (h : ∀ d ∈ s, DG d) {x : Int} (hx : isB s x = true) : valsB s x ≠ [] := by
  unfold valsB
  rw [if_pos hx]
  have hl : 0 ≤ x ∧ x < s.length := by simpa [isB] using hx
  obtain ⟨i, rfl⟩ : ∃ i : Nat, x = i := ⟨x.toNat, by omega⟩
  have hi : i < s.length := by omega
  have hd := h _ (List.getElem_mem hi)
  simp only [Int.toNat_natCast, List.getElem?_eq_getElem hi, Option.map_some, Option.getD_some]
  intro e
  have hn := hd.ne
  have hz : ∀ j, j < 64 → (s[i]).has j = false := fun j hj => by
    by_cases hw : j < (s[i]).width
    · cases hh : (s[i]).has j
      · rfl
      · have : (s[i]).from' + (j : Int) ∈ (s[i]).vals (s[i]).width := mem_vals.2 ⟨j, hw, hh, rfl⟩
        rw [e] at this; cases this
    · exact hd.full j hj (by omega)
  have ha : (s[i]).a = 0 := Nat.eq_of_testBit_eq fun j => by
    by_cases hj : j < 32
    · have := hz j (by omega); simpa [Dom.has, hj] using this
    · rw [Nat.zero_testBit]; exact Nat.testBit_lt_two_pow (Nat.lt_of_lt_of_le hd.ok.a (by
        have : (2 : Nat) ^ 32 ≤ 2 ^ j := Nat.pow_le_pow_right (by omega) (by omega)
        simpa using this))
  have hb : (s[i]).b = 0 := Nat.eq_of_testBit_eq fun j => by
    by_cases hj : j < 32
    · have h2 : ¬ j + 32 < 32 := by omega
      have := hz (j + 32) (by omega); simpa [Dom.has, h2] using this
    · rw [Nat.zero_testBit]; exact Nat.testBit_lt_two_pow (Nat.lt_of_lt_of_le hd.ok.b (by
        have : (2 : Nat) ^ 32 ≤ 2 ^ j := Nat.pow_le_pow_right (by omega) (by omega)
        simpa using this))
  simp [Dom.none, ha, hb] at hn
theorem vals_no {s : List Dom} {x : Int} (hx : isB s x = false) : valsB s x = [] := by simp [valsB, hx]
theorem vals_at {s : List Dom} {i : Nat} (hi : i < s.length) : valsB s i = (s[i]).vals (s[i]).width := by
  have : isB s i = true := by simp [isB, hi]
  simp [valsB, this, hi]
theorem vals_mem {s : List Dom} (h : ∀ d ∈ s, DG d) {x v : Int} (hv : v ∈ valsB s x) : isB s x = true ∧ -1000000000 ≤ v ∧ v < 1000000064 := by
  cases hx : isB s x
  · rw [vals_no hx] at hv; cases hv
  · have hl : 0 ≤ x ∧ x < s.length := by simpa [isB] using hx
    obtain ⟨i, rfl⟩ : ∃ i : Nat, x = i := ⟨x.toNat, by omega⟩
    have hi : i < s.length := by omega
    have hd := h _ (List.getElem_mem hi)
    rw [vals_at hi] at hv
    obtain ⟨j, hj, _, rfl⟩ := mem_vals.1 hv
    have := hd.ok.f; have := hd.ok.w
    exact ⟨rfl, by omega, by omega⟩
/-- Rising: no value twice. -/
theorem vals_up (d : Dom) (n : Nat) : (d.vals n).Pairwise (· < ·) := by
  unfold Dom.vals
  rw [List.pairwise_map]
  refine List.Pairwise.imp (R := fun (a b : Nat) => a < b) (fun h => by omega) ?_
  exact List.Pairwise.filter _ List.pairwise_lt_range
theorem valsB_up (s : List Dom) (x : Int) : (valsB s x).Pairwise (· < ·) := by
  unfold valsB
  split
  · cases s[x.toNat]? <;> simp [vals_up]
  · exact .nil
def loB (s : List Dom) (x : Int) : Int := (valsB s x).headD 0
def hiB (s : List Dom) (x : Int) : Int := (valsB s x).getLastD 0
theorem head_mem {l : List Int} (h : l ≠ []) : l.headD 0 ∈ l := by cases l with | nil => exact (h rfl).elim | cons a l => simp
theorem last_mem {l : List Int} (h : l ≠ []) : l.getLastD 0 ∈ l := by
  rw [List.getLastD_eq_getLast?, List.getLast?_eq_some_getLast h]; exact List.getLast_mem h
theorem lo_range {s : List Dom} (h : ∀ d ∈ s, DG d) (x : Int) : -1000000000 ≤ loB s x ∧ loB s x < 1000000064 := by
  by_cases e : valsB s x = []
  · simp [loB, e]
  · exact (vals_mem h (head_mem e)).2
theorem hi_range {s : List Dom} (h : ∀ d ∈ s, DG d) (x : Int) : -1000000000 ≤ hiB s x ∧ hiB s x < 1000000064 := by
  by_cases e : valsB s x = []
  · simp [hiB, e]
  · exact (vals_mem h (last_mem e)).2
/-- Fewer than 64 between the ends. -/
theorem vals_span {s : List Dom} (h : ∀ d ∈ s, DG d) (x : Int) : hiB s x - loB s x < 64 := by
  by_cases e : valsB s x = []
  · simp [loB, hiB, e]
  · have h1 := head_mem e; have h2 := last_mem e
    obtain ⟨hx, _⟩ := vals_mem h h1
    have hl : 0 ≤ x ∧ x < s.length := by simpa [isB] using hx
    obtain ⟨i, rfl⟩ : ∃ i : Nat, x = i := ⟨x.toNat, by omega⟩
    have hi : i < s.length := by omega
    have hd := (h _ (List.getElem_mem hi)).ok.w
    change hiB s i ∈ _ at h2; change loB s i ∈ _ at h1
    rw [vals_at hi] at h1 h2
    obtain ⟨j, hj, _, e1⟩ := mem_vals.1 h1
    obtain ⟨k, hk, _, e2⟩ := mem_vals.1 h2
    omega

/-- The program's store, the document's: each one object. -/
def ST (s : List Dom) (ms : List (List Dom)) : O := St1 s (mT ms)
def RT (s : List Dom) (ms : List (List Dom)) : O := RR (refD s) (ms.map refD)
theorem ST_nres (s : List Dom) (ms : List (List Dom)) : ST s ms ≠ .res := fun e => by cases e
theorem RT_nres (s : List Dom) (ms : List (List Dom)) : RT s ms ≠ .res := fun e => by cases e
theorem ST_clo' (s : List Dom) (ms : List (List Dom)) : (ST s ms).clo := St1_clo s ms
theorem RT_clo' (s : List Dom) (ms : List (List Dom)) : (RT s ms).clo := RR_clo _ _
section
variable (s : List Dom) (ms : List (List Dom))
@[simp high] theorem ST_isMem : (ST s ms).isMem = false := rfl
@[simp high] theorem RT_isMem : (RT s ms).isMem = false := rfl
@[simp high] theorem ST_isTree : (ST s ms).isTree = true := rfl
@[simp high] theorem RT_isTree : (RT s ms).isTree = true := rfl
@[simp high] theorem ST_trows : (ST s ms).trows = 1 := rfl
@[simp high] theorem RT_trows : (RT s ms).trows = 1 := rfl
@[simp high] theorem ST_refs : (ST s ms).refs = [] := rfl
@[simp high] theorem RT_refs : (RT s ms).refs = [] := rfl
@[simp high] theorem ST_tot : (ST s ms).hasTot 1 = True := by simp [ST, St1, O.hasTot]
@[simp high] theorem RT_tot : (RT s ms).hasTot 1 = True := by simp [RT, RR, R1, O.hasTot]
@[simp] theorem ST_nres' : (ST s ms = .res) = False := eq_false (ST_nres s ms)
@[simp] theorem RT_nres' : (RT s ms = .res) = False := eq_false (RT_nres s ms)
@[simp] theorem ST_clo : (ST s ms).clo = True := eq_true (ST_clo' s ms)
@[simp] theorem RT_clo : (RT s ms).clo = True := eq_true (RT_clo' s ms)
@[simp high] theorem ST_ren (f : Nat → Nat) : O.ren f (ST s ms) = ST s ms := (ST_clo' s ms).ren f
@[simp high] theorem RT_ren (f : Nat → Nat) : O.ren f (RT s ms) = RT s ms := (RT_clo' s ms).ren f
@[simp high] theorem ST_lim (n : Nat) : limO n (ST s ms) = ST s ms := by simp [ST]
@[simp high] theorem RT_lim (n : Nat) : limO n (RT s ms) = RT s ms := by simp [RT, RR, R1, limO, O.refs]
end

@[simp high] theorem ren_vInts (f : Nat → Nat) (l : List Int) : V.ren f (vInts l) = vInts l := by
  simp only [vInts, V.ren]
section
variable {s : List Dom} {ms : List (List Dom)} (h : Two s ms)
include h
theorem openT : DC Tryz.prog dom_Store_Open.id [.ptr 0 1 0 0] [ST s ms] fun r H => r = vInts (openB s s.length) ∧ H = [ST s ms] := openP h.sok
theorem loT (x : Int) : DC Tryz.prog dom_Store_Lo.id [.ptr 0 1 0 0, V.i x] [ST s ms] fun r H => r = V.i (loB s x) ∧ H = [ST s ms] := by
  refine DC.to (loP h.sok x fun hx => vals_ne h.d hx) ⟨?_, rfl⟩
  cases hx : isB s x
  · simp [loB, vals_no hx]
  · simp [loB]
theorem hiT (x : Int) : DC Tryz.prog dom_Store_Hi.id [.ptr 0 1 0 0, V.i x] [ST s ms] fun r H => r = V.i (hiB s x) ∧ H = [ST s ms] := by
  refine DC.to (hiP h.sok x fun hx => vals_ne h.d hx) ⟨?_, rfl⟩
  cases hx : isB s x
  · simp [hiB, vals_no hx]
  · simp [hiB]
theorem cutT (k x v : Int) : DC Tryz.prog dom_Store_Cut.id [.ptr 0 1 0 0, .agg [V.i k, V.i x, V.i v]] [ST s ms] fun r H => r = .tup [.bool (cutS s k x v).2.1, .bool (cutS s k x v).2.2] ∧ H = [ST (cutS s k x v).1 ms] := cutP h.sok k x v
theorem openZ : DC Tryz.prog hallmarkref11_Store_Open.id [.ptr 0 1 0 0] [RT s ms] fun r H => r = vInts (openB s s.length) ∧ H = [RT s ms] := by
  have := openRP h.rok; rw [refD_len, ← open_ref h.d] at this; exact this
theorem loZ (x : Int) : DC Tryz.prog hallmarkref11_Store_Lo.id [.ptr 0 1 0 0, V.i x] [RT s ms] fun r H => r = V.i (loB s x) ∧ H = [RT s ms] := by
  have := loRP h.rok x; rw [row_ref] at this; exact this
theorem hiZ (x : Int) : DC Tryz.prog hallmarkref11_Store_Hi.id [.ptr 0 1 0 0, V.i x] [RT s ms] fun r H => r = V.i (hiB s x) ∧ H = [RT s ms] := by
  have := hiRP h.rok x; rw [row_ref] at this; exact this
theorem cutZ (k x v : Int) : DC Tryz.prog hallmarkref11_Store_Cut.id [.ptr 0 1 0 0, .agg [V.i k, V.i x, V.i v]] [RT s ms] fun r H => r = .tup [.bool (cutS s k x v).2.1, .bool (cutS s k x v).2.2] ∧ H = [RT (cutS s k x v).1 ms] := by
  have := cutRP h.rok k x v
  rw [(cut_ref h.d k x v).1] at this; exact this
end
theorem newT (m : Model) (hm : okModel m) : DC Tryz.prog dom_New.id [.agg m.cells] [] (fun r H => r = .ptr 0 1 0 0 ∧ H = [ST (domsOf m) []]) := newP1 m hm
theorem newZ (m : Model) (hm : okModel m) : DC Tryz.prog hallmarkref11_New.id [.agg m.cells] [] (fun r H => r = .ptr 0 1 0 0 ∧ H = [RT (domsOf m) []]) := by
  have := newRP m hm
  rw [← new_ref] at this; exact this
end Go.Abs.G


/- What a cut makes of the values; what is open. -/
namespace Go.Abs.G
open Go.Proofs
set_option linter.unusedVariables false

theorem isB_iff {s : List Dom} {x : Int} : isB s x = true ↔ 0 ≤ x ∧ x < s.length := by simp [isB]
theorem open_mem {s : List Dom} (h : ∀ d ∈ s, DG d) {x : Int} : x ∈ openB s s.length ↔ isB s x = true ∧ 1 < (valsB s x).length := by
  unfold openB
  simp only [List.mem_map, List.mem_filter, List.mem_range, decide_eq_true_eq]
  constructor
  · rintro ⟨i, ⟨hi, h1⟩, rfl⟩
    refine ⟨isB_iff.2 ⟨by omega, by omega⟩, ?_⟩
    rw [vals_at hi, ← size_ref (h _ (List.getElem_mem hi))]
    simpa [List.getElem?_eq_getElem hi] using h1
  · rintro ⟨hx, h1⟩
    obtain ⟨h0, h2⟩ := isB_iff.1 hx
    obtain ⟨i, rfl⟩ : ∃ i : Nat, x = i := ⟨x.toNat, by omega⟩
    have hi : i < s.length := by omega
    refine ⟨i, ⟨hi, ?_⟩, rfl⟩
    rw [vals_at hi, ← size_ref (h _ (List.getElem_mem hi))] at h1
    simpa [List.getElem?_eq_getElem hi] using h1
theorem lo_lt_hi {s : List Dom} {x : Int} (h1 : 1 < (valsB s x).length) : loB s x < hiB s x := by
  have hp := valsB_up s x
  unfold loB hiB
  generalize valsB s x = l at *
  have hn : l ≠ [] := fun e => by subst e; simp at h1
  rw [List.getLastD_eq_getLast?, List.getLast?_eq_some_getLast hn, Option.getD_some, List.getLast_eq_getElem]
  have : l.headD 0 = l[0] := by cases l with | nil => exact (hn rfl).elim | cons a l => rfl
  rw [this]
  exact List.pairwise_iff_getElem.1 hp 0 (l.length - 1) (by omega) (by omega) (by omega)
theorem open_small' (s : List Dom) : (openB s s.length).length ≤ s.length := by
  unfold openB; rw [List.length_map]; exact Nat.le_trans (List.length_filter_le _ _) (by simp)

/-- A split: variable, value, whether there is one. -/
def pickB (s : List Dom) (n : Int) : Int × Int × Bool :=
  if openB s s.length = [] then (0, 0, false) else
    let o := openB s s.length
    let x := o.getD (n % o.length).toNat 0
    (x, loB s x + 1 + (n / o.length) % (hiB s x - loB s x), true)
theorem pick_open {s : List Dom} (h : ∀ d ∈ s, DG d) (hn : openB s s.length ≠ []) (n : Int) :
    (n % (openB s s.length).length).toNat < (openB s s.length).length ∧ (openB s s.length).getD (n % (openB s s.length).length).toNat 0 ∈ openB s s.length := by
  have hl : 0 < (openB s s.length).length := List.length_pos_iff.2 hn
  have h0 : 0 ≤ n % ((openB s s.length).length : Int) := Int.emod_nonneg _ (by omega)
  have h1 : n % ((openB s s.length).length : Int) < (openB s s.length).length := Int.emod_lt_of_pos _ (by omega)
  have h2 : (n % ((openB s s.length).length : Int)).toNat < (openB s s.length).length := by omega
  refine ⟨h2, ?_⟩
  rw [List.getD_eq_getElem?_getD, List.getElem?_eq_getElem h2]; exact List.getElem_mem h2
end Go.Abs.G

/- More calls as steps. -/
namespace Go.Abs
set_option linter.unusedVariables false
section
variable {P : Program} {k : St → Prop} {st : St} {d : Option Nat} {ap : List Nat} {f : FuncId} {xs : List Operand}
end
end Go.Abs

namespace Go.Abs.G
open Go.Proofs
set_option linter.unusedVariables false
set_option linter.unusedSimpArgs false

theorem tdiv_mod (n by' : Int) (hb : 0 < by') : (n.tmod by' < 0 → n.tdiv by' - 1 = n / by' ∧ n.tmod by' + by' = n % by') ∧ (¬ n.tmod by' < 0 → n.tdiv by' = n / by' ∧ n.tmod by' = n % by') := by
  have e1 := Int.mul_tdiv_add_tmod n by'
  have e2 := Int.mul_ediv_add_emod n by'
  have a1 := Int.emod_nonneg n (show by' ≠ 0 by omega)
  have a2 := Int.emod_lt_of_pos n hb
  have b1 := Int.tmod_lt_of_pos n hb
  have b2 : -by' < n.tmod by' := by
    have := Int.lt_tmod_of_pos n hb; omega
  have key : ∀ q r q' r' : Int, by' * q + r = by' * q' + r' → 0 ≤ r → r < by' → 0 ≤ r' → r' < by' → q = q' ∧ r = r' := by
    intro q r q' r' e c1 c2 c3 c4
    have : by' * (q - q') = r' - r := by rw [Int.mul_sub]; omega
    have hq : q - q' = 0 := by
      by_cases h0 : 0 < q - q'
      · have : by' * 1 ≤ by' * (q - q') := Int.mul_le_mul_of_nonneg_left (by omega) (by omega)
        omega
      · by_cases h1 : q - q' < 0
        · have : by' * (q - q') ≤ by' * (-1) := Int.mul_le_mul_of_nonneg_left (by omega) (by omega)
          omega
        · omega
    rw [hq] at this
    omega
  constructor
  · intro h
    exact key _ _ _ _ (by rw [Int.mul_sub]; omega) (by omega) (by omega) a1 a2
  · intro h
    exact key _ _ _ _ (by omega) (by omega) (by omega) a1 a2
theorem tmod_bound (n by' : Int) (hb : 0 < by') (hs : by' ≤ 4000000000) : -4000000000 < n.tmod by' ∧ n.tmod by' < 4000000000 := by
  have b1 := Int.tmod_lt_of_pos n hb
  have b2 := Int.lt_tmod_of_pos n hb
  omega
theorem tdiv_bound {n by' : Int} (hn : I64 n) (hb : 0 < by') (hs : by' ≤ 4000000000) : -9223372036854775808 ≤ n.tdiv by' ∧ n.tdiv by' ≤ 9223372036854775807 ∧ (n.tmod by' < 0 → -9223372036854775808 ≤ n.tdiv by' - 1) := by
  obtain ⟨h1, h2⟩ := hn
  have e := Int.mul_tdiv_add_tmod n by'
  have b1 := Int.tmod_lt_of_pos n hb
  have b2 := Int.lt_tmod_of_pos n hb
  obtain ⟨q, hq⟩ : ∃ q, q = n.tdiv by' := ⟨_, rfl⟩
  rw [← hq] at e ⊢
  by_cases h : by' = 1
  · subst h
    have : n.tmod 1 = 0 := by rw [Int.tmod_one]
    omega
  · have k1 : ∀ c, c ≤ q → by' * c ≤ by' * q := fun c hc => Int.mul_le_mul_of_nonneg_left hc (by omega)
    have k2 : ∀ c, q ≤ c → by' * q ≤ by' * c := fun c hc => Int.mul_le_mul_of_nonneg_left hc (by omega)
    have p1 : 0 ≤ q → q ≤ 9223372036854775807 := fun h0 => by
      by_cases c : q ≤ 4611686018427387904
      · omega
      · have := Int.mul_le_mul_of_nonneg_right (show 2 ≤ by' by omega) h0; omega
    have p2 : q < 0 → -9223372036854775807 ≤ q := fun h0 => by
      by_cases c : -4611686018427387905 ≤ q
      · omega
      · have := Int.mul_le_mul_of_nonneg_right (show 2 ≤ by' by omega) (show 0 ≤ -q by omega)
        rw [Int.mul_neg, Int.mul_neg] at this
        omega
    by_cases h0 : 0 ≤ q
    · have := p1 h0; exact ⟨by omega, by omega, fun _ => by omega⟩
    · have := p2 (by omega); exact ⟨by omega, by omega, fun _ => by omega⟩

theorem divided_spec (n by' : Int) (hn : I64 n) (hb : 0 < by') (hs : by' ≤ 4000000000) : Pf Tryz.prog branch_divided.id [V.i n, V.i by'] (.tup [V.i (n / by'), V.i (n % by')]) := by
  refine DC.of branch_divided.ok (by simp) ?_
  unfold branch_divided.ir
  obtain ⟨t1, t2⟩ := tdiv_mod n by' hb
  obtain ⟨q1, q2, q3⟩ := tdiv_bound hn hb hs
  obtain ⟨m1, m2⟩ := tmod_bound n by' hb hs
  have hne : ¬ by' = 0 := by omega
  have w1 : IntKind.i64.wrap (n.tdiv by') = n.tdiv by' := wrap64 (by omega) (by omega)
  have w2 : IntKind.i64.wrap (n.tmod by') = n.tmod by' := wrap64 (by omega) (by omega)
  by_cases h : n.tmod by' < 0
  · obtain ⟨e1, e2⟩ := t1 h
    have w3 : IntKind.i64.wrap (n.tdiv by' - 1) = n.tdiv by' - 1 := wrap64 (q3 h) (by omega)
    have w4 : IntKind.i64.wrap (n.tmod by' + by') = n.tmod by' + by' := wrap64 (by omega) (by omega)
    rw [e1] at w3; rw [e2] at w4
    simp -dsimp [hne, w1, w2, h, w3, w4, e1, e2, branch_divided.rs]
  · obtain ⟨e1, e2⟩ := t2 h
    rw [e1] at w1; rw [e2] at w2 h
    simp -dsimp [hne, w1, w2, h, e1, e2, branch_divided.rs]
theorem modulo_spec (n by' : Int) (hn : I64 n) (hb : 0 < by') (hs : by' ≤ 4000000000) : Pf Tryz.prog hallmarkref17_modulo.id [V.i n, V.i by'] (.tup [V.i (n % by'), V.i (n / by')]) := by
  refine DC.of hallmarkref17_modulo.ok (by simp) ?_
  unfold hallmarkref17_modulo.ir
  obtain ⟨t1, t2⟩ := tdiv_mod n by' hb
  obtain ⟨q1, q2, q3⟩ := tdiv_bound hn hb hs
  obtain ⟨m1, m2⟩ := tmod_bound n by' hb hs
  have hne : ¬ by' = 0 := by omega
  have w1 : IntKind.i64.wrap (n.tdiv by') = n.tdiv by' := wrap64 (by omega) (by omega)
  have w2 : IntKind.i64.wrap (n.tmod by') = n.tmod by' := wrap64 (by omega) (by omega)
  by_cases h : n.tmod by' < 0
  · obtain ⟨e1, e2⟩ := t1 h
    have w3 : IntKind.i64.wrap (n.tdiv by' - 1) = n.tdiv by' - 1 := wrap64 (q3 h) (by omega)
    have w4 : IntKind.i64.wrap (n.tmod by' + by') = n.tmod by' + by' := wrap64 (by omega) (by omega)
    rw [e1] at w3; rw [e2] at w4
    simp -dsimp [hne, w1, w2, h, w3, w4, e1, e2, hallmarkref17_modulo.rs]
  · obtain ⟨e1, e2⟩ := t2 h
    rw [e1] at w1; rw [e2] at w2 h
    simp -dsimp [hne, w1, w2, h, e1, e2, hallmarkref17_modulo.rs]
theorem ediv_i64 {n by' : Int} (hn : I64 n) (hb : 0 < by') (hs : by' ≤ 4000000000) : I64 (n / by') := by
  obtain ⟨t1, t2⟩ := tdiv_mod n by' hb
  obtain ⟨q1, q2, q3⟩ := tdiv_bound hn hb hs
  by_cases h : n.tmod by' < 0
  · obtain ⟨e1, e2⟩ := t1 h
    have := q3 h
    exact ⟨by omega, by omega⟩
  · obtain ⟨e1, e2⟩ := t2 h
    exact ⟨by omega, by omega⟩
def pickV (p : Int × Int × Bool) : V := .tup [V.i p.1, V.i p.2.1, .bool p.2.2]

theorem pick_spec {s : List Dom} {ms : List (List Dom)} (hs : Two s ms) (n : Int) (hn : I64 n) :
    DC Tryz.prog branch_Pick.id [.ptr 0 1 0 0, V.i n] [ST s ms] (fun r H => r = pickV (pickB s n) ∧ H = [ST s ms]) := by
  refine DC.of branch_Pick.ok (by simp) ?_
  unfold branch_Pick.ir
  refine vc_cut (At [(0, .ptr 0 1 0 0), (1, V.i n)] [ST s ms]) (by simp -dsimp [At]) ?_
  try clear h
  rintro ⟨sl, hp, bs⟩ ⟨rfl, h⟩
  simp only [sls_cons, sls_one, sls_nil] at h
  refine vc_cut (At [(0, .ptr 0 1 0 0), (1, V.i n), (7, vInts (openB s s.length))] [ST s ms]) ?_ ?_
  · simp -dsimp [h]
    refine gcallm1 (openT hs) 0 (by simp -dsimp [h, addAll]) (by simp -dsimp [h]) (by simp) (by simp) (by simp) (by simp -dsimp [h, idx]) (by simp) ?_
    simp -dsimp [h, At]
  try clear h
  rintro ⟨sl, hp, bs⟩ ⟨rfl, h⟩
  simp only [sls_cons, sls_one, sls_nil] at h
  have hsm := open_small' s
  have h64 := hs.n
  by_cases he : openB s s.length = []
  · simp -dsimp [h, he, vInts, branch_Pick.rs, pickB, pickV]
  · have hl : 0 < (openB s s.length).length := List.length_pos_iff.2 he
    have hl' : ¬ ((openB s s.length).length : Int) = 0 := by omega
    obtain ⟨hlt', hmem⟩ := pick_open hs.d he n
    have he0 : 0 ≤ n % ((openB s s.length).length : Int) := Int.emod_nonneg _ (by omega)
    have hpk : pickB s n = ((openB s s.length).getD (n % (openB s s.length).length).toNat 0, loB s ((openB s s.length).getD (n % (openB s s.length).length).toNat 0) + 1 + (n / (openB s s.length).length) % (hiB s ((openB s s.length).getD (n % (openB s s.length).length).toNat 0) - loB s ((openB s s.length).getD (n % (openB s s.length).length).toNat 0)), true) := by simp [pickB, he]
    have he1 : n % ((openB s s.length).length : Int) < (openB s s.length).length := Int.emod_lt_of_pos _ (by omega)
    obtain ⟨x, hx⟩ : ∃ x, x = (openB s s.length).getD (n % (openB s s.length).length).toNat 0 := ⟨_, rfl⟩
    have hxe : (openB s s.length)[(n % (openB s s.length).length).toNat]? = some x := by rw [hx, List.getD_eq_getElem?_getD, List.getElem?_eq_getElem hlt']; rfl
    rw [← hx] at hpk hmem
    obtain ⟨hxi, hx1⟩ := (open_mem hs.d).1 hmem
    have hlh := lo_lt_hi hx1
    have hsp := vals_span hs.d x
    have r1 := lo_range hs.d x
    have r2 := hi_range hs.d x
    obtain ⟨L, hL⟩ : ∃ L, L = openB s s.length := ⟨_, rfl⟩
    clear hx hlt'
    rw [← hL] at h he hl hl' he0 he1 hpk hxe hsm
    have w1 : IntKind.i64.wrap (hiB s x - loB s x) = hiB s x - loB s x := by rw [wrap64] <;> omega
    have m0 := Int.emod_nonneg (n / (L.length : Int)) (show hiB s x - loB s x ≠ 0 by omega)
    have m1 := Int.emod_lt_of_pos (n / (L.length : Int)) (show 0 < hiB s x - loB s x by omega)
    have w2 : IntKind.i64.wrap (loB s x + 1) = loB s x + 1 := by rw [wrap64] <;> omega
    have w3 : IntKind.i64.wrap (loB s x + 1 + (n / (L.length : Int)) % (hiB s x - loB s x)) = loB s x + 1 + (n / (L.length : Int)) % (hiB s x - loB s x) := by rw [wrap64] <;> omega
    have hlt : (n % (L.length : Int)).toNat < L.length := by omega
    have hxg : ∀ hh, L[(n % (L.length : Int)).toNat]'hh = x := fun hh => by rw [List.getElem?_eq_getElem hh] at hxe; exact Option.some.inj hxe
    simp -dsimp [h, he, hl', vInts]
    refine gcall (divided_spec n L.length hn (by omega) (by omega)) (by simp -dsimp [h, vInts, he0, he1, hlt, hxg]) (by simp -dsimp [h, vInts, he0, he1, hlt, hxg]) ?_
    simp -dsimp [h, vInts, he0, he1, hlt, hxg]
    refine gcallm1 (hiT hs x) 0 (by simp -dsimp [h, addAll]) (by simp -dsimp [h]) (by simp) (by simp) (by simp) (by simp -dsimp [h, idx]) (by simp) ?_
    simp -dsimp [h, vInts, he0, he1, hlt, hxg]
    refine gcallm1 (loT hs x) 0 (by simp -dsimp [h, addAll]) (by simp -dsimp [h]) (by simp) (by simp) (by simp) (by simp -dsimp [h, idx]) (by simp) ?_
    simp -dsimp [h, vInts, he0, he1, hlt, hxg, w1]
    refine gcall (divided_spec (n / (L.length : Int)) (hiB s x - loB s x) (ediv_i64 hn (by omega) (by omega)) (by omega) (by omega)) (by simp -dsimp [h, vInts, he0, he1, hlt, hxg, w1]) (by simp -dsimp [h, vInts, he0, he1, hlt, hxg, w1]) ?_
    simp -dsimp [h, vInts, he0, he1, hlt, hxg, w1]
    refine gcallm1 (loT hs x) 0 (by simp -dsimp [h, addAll]) (by simp -dsimp [h]) (by simp) (by simp) (by simp) (by simp -dsimp [h, idx]) (by simp) ?_
    simp -dsimp [h, branch_Pick.rs, w2, w3, hpk, pickV]
end Go.Abs.G

namespace Go.Abs.G
open Go.Proofs
set_option linter.unusedVariables false
set_option linter.unusedSimpArgs false

def okCut (c : DCut) : Prop := I64 c.k ∧ I64 c.x ∧ I64 c.v
def zCuts (l : List DCut) : Prop := l.length ≤ maxLen ∧ l.length ≤ maxS ∧ ∀ c ∈ l, okCut c
structure CTypes (P : Program) (tInt tCut tCuts : TypeId) : Prop where
  bytes : 8 ≤ P.bytesOf tCut
  int : P.underlying tInt = some (.int .i64) ∧ P.cellsOf tInt = 1
  cut : ∃ fs, P.underlying tCut = some (.struct fs) ∧ P.cellsOf tCut = 3 ∧ fs.toList.map (fun f => (f.type, f.offset)) = [(tInt, 0), (tInt, 1), (tInt, 2)]
  cuts : P.underlying tCuts = some (.slice tCut) ∧ P.cellsOf tCuts = 1
theorem rdI {P : Program} {t : TypeId} (h : P.underlying t = some (.int .i64) ∧ P.cellsOf t = 1) : Rd P t 1 (fun n : Int => [V.i n]) I64 :=
  (Rd.int h.1 h.2).map fun n h => ⟨n, by
    have : (decide (IntKind.i64.min ≤ n) && decide (n ≤ IntKind.i64.max)) = true := h
    simp only [Bool.and_eq_true, decide_eq_true_eq] at this
    exact ⟨this.1, this.2⟩, rfl⟩
theorem rdCut {P : Program} {tInt tCut : TypeId} (hi : P.underlying tInt = some (.int .i64) ∧ P.cellsOf tInt = 1)
    (hc : ∃ fs, P.underlying tCut = some (.struct fs) ∧ P.cellsOf tCut = 3 ∧ fs.toList.map (fun f => (f.type, f.offset)) = [(tInt, 0), (tInt, 1), (tInt, 2)]) : Rd P tCut 3 DCut.cells okCut := by
  obtain ⟨fs, h1, h2, h3⟩ := hc
  refine (Rd.struct h1 h2 (RdF.of_map (fs := [fl tInt 0, fl tInt 1, fl tInt 2]) (.cons rfl (rdI hi) (.cons rfl (rdI hi) (.cons rfl (rdI hi) .nil))) h3)).map fun x h => ?_
  exact ⟨⟨x.1, x.2.1, x.2.2.1⟩, ⟨h.1, h.2.1, h.2.2.1⟩, rfl⟩
theorem CTypes.rdCuts {P : Program} {tInt tCut tCuts : TypeId} (M : CTypes P tInt tCut tCuts) : Rd P tCuts 1 (fun l : List DCut => [vCuts l]) zCuts :=
  (Rd.slice M.cuts.1 M.cuts.2 (by omega) (rdCut M.int M.cut)).map fun l h => ⟨l, ⟨h.1, maxS_of h.2.1 M.bytes, h.2.2⟩, rfl⟩
end Go.Abs.G


namespace Go.Abs.G
open Go.Proofs
set_option linter.unusedVariables false
set_option linter.unusedSimpArgs false

theorem pickR_spec {s : List Dom} {ms : List (List Dom)} (hs : Two s ms) (n : Int) (hn : I64 n) :
    DC Tryz.prog hallmarkref17_Pick.id [.ptr 0 1 0 0, V.i n] [RT s ms] (fun r H => r = pickV (pickB s n) ∧ H = [RT s ms]) := by
  refine DC.of hallmarkref17_Pick.ok (by simp) ?_
  unfold hallmarkref17_Pick.ir
  refine vc_cut (At [(0, .ptr 0 1 0 0), (1, V.i n)] [RT s ms]) (by simp -dsimp [At]) ?_
  try clear h
  rintro ⟨sl, hp, bs⟩ ⟨rfl, h⟩
  simp only [sls_cons, sls_one, sls_nil] at h
  refine vc_cut (At [(0, .ptr 0 1 0 0), (1, V.i n), (7, vInts (openB s s.length))] [RT s ms]) ?_ ?_
  · simp -dsimp [h]
    refine gcallm1 (openZ hs) 0 (by simp -dsimp [h, addAll]) (by simp -dsimp [h]) (by simp) (by simp) (by simp) (by simp -dsimp [h, idx]) (by simp) ?_
    simp -dsimp [h, At]
  try clear h
  rintro ⟨sl, hp, bs⟩ ⟨rfl, h⟩
  simp only [sls_cons, sls_one, sls_nil] at h
  have hsm := open_small' s
  have h64 := hs.n
  by_cases he : openB s s.length = []
  · simp -dsimp [h, he, vInts, hallmarkref17_Pick.rs, pickB, pickV]
  · have hl : 0 < (openB s s.length).length := List.length_pos_iff.2 he
    have hl' : ¬ ((openB s s.length).length : Int) = 0 := by omega
    obtain ⟨hlt', hmem⟩ := pick_open hs.d he n
    have he0 : 0 ≤ n % ((openB s s.length).length : Int) := Int.emod_nonneg _ (by omega)
    have hpk : pickB s n = ((openB s s.length).getD (n % (openB s s.length).length).toNat 0, loB s ((openB s s.length).getD (n % (openB s s.length).length).toNat 0) + 1 + (n / (openB s s.length).length) % (hiB s ((openB s s.length).getD (n % (openB s s.length).length).toNat 0) - loB s ((openB s s.length).getD (n % (openB s s.length).length).toNat 0)), true) := by simp [pickB, he]
    have he1 : n % ((openB s s.length).length : Int) < (openB s s.length).length := Int.emod_lt_of_pos _ (by omega)
    obtain ⟨x, hx⟩ : ∃ x, x = (openB s s.length).getD (n % (openB s s.length).length).toNat 0 := ⟨_, rfl⟩
    have hxe : (openB s s.length)[(n % (openB s s.length).length).toNat]? = some x := by rw [hx, List.getD_eq_getElem?_getD, List.getElem?_eq_getElem hlt']; rfl
    rw [← hx] at hpk hmem
    obtain ⟨hxi, hx1⟩ := (open_mem hs.d).1 hmem
    have hlh := lo_lt_hi hx1
    have hsp := vals_span hs.d x
    have r1 := lo_range hs.d x
    have r2 := hi_range hs.d x
    obtain ⟨L, hL⟩ : ∃ L, L = openB s s.length := ⟨_, rfl⟩
    clear hx hlt'
    rw [← hL] at h he hl hl' he0 he1 hpk hxe hsm
    have w1 : IntKind.i64.wrap (hiB s x - loB s x) = hiB s x - loB s x := by rw [wrap64] <;> omega
    have m0 := Int.emod_nonneg (n / (L.length : Int)) (show hiB s x - loB s x ≠ 0 by omega)
    have m1 := Int.emod_lt_of_pos (n / (L.length : Int)) (show 0 < hiB s x - loB s x by omega)
    have w2 : IntKind.i64.wrap (loB s x + 1) = loB s x + 1 := by rw [wrap64] <;> omega
    have w3 : IntKind.i64.wrap (loB s x + 1 + (n / (L.length : Int)) % (hiB s x - loB s x)) = loB s x + 1 + (n / (L.length : Int)) % (hiB s x - loB s x) := by rw [wrap64] <;> omega
    have hlt : (n % (L.length : Int)).toNat < L.length := by omega
    have hxg : ∀ hh, L[(n % (L.length : Int)).toNat]'hh = x := fun hh => by rw [List.getElem?_eq_getElem hh] at hxe; exact Option.some.inj hxe
    simp -dsimp [h, he, hl', vInts]
    refine gcall (modulo_spec n L.length hn (by omega) (by omega)) (by simp -dsimp [h, vInts, he0, he1, hlt, hxg]) (by simp -dsimp [h, vInts, he0, he1, hlt, hxg]) ?_
    simp -dsimp [h, vInts, he0, he1, hlt, hxg]
    refine gcallm1 (hiZ hs x) 0 (by simp -dsimp [h, addAll]) (by simp -dsimp [h]) (by simp) (by simp) (by simp) (by simp -dsimp [h, idx]) (by simp) ?_
    simp -dsimp [h, vInts, he0, he1, hlt, hxg]
    refine gcallm1 (loZ hs x) 0 (by simp -dsimp [h, addAll]) (by simp -dsimp [h]) (by simp) (by simp) (by simp) (by simp -dsimp [h, idx]) (by simp) ?_
    simp -dsimp [h, vInts, he0, he1, hlt, hxg, w1]
    refine gcall (modulo_spec (n / (L.length : Int)) (hiB s x - loB s x) (ediv_i64 hn (by omega) (by omega)) (by omega) (by omega)) (by simp -dsimp [h, vInts, he0, he1, hlt, hxg, w1]) (by simp -dsimp [h, vInts, he0, he1, hlt, hxg, w1]) ?_
    simp -dsimp [h, vInts, he0, he1, hlt, hxg, w1]
    refine gcallm1 (loZ hs x) 0 (by simp -dsimp [h, addAll]) (by simp -dsimp [h]) (by simp) (by simp) (by simp) (by simp -dsimp [h, idx]) (by simp) ?_
    simp -dsimp [h, hallmarkref17_Pick.rs, w2, w3, hpk, pickV]

theorem small17_spec (m : Model) (hm : zModel m) : DP Tryz.prog hallmarklaw17_small.id [.agg m.cells] fun r => ∃ b, r = .bool b := by
  have hz := hm
  obtain ⟨ok, z1, z2, z3, z4, z5⟩ := hm
  have hS : maxS = 17592186044416 := rfl
  refine DC.of hallmarklaw17_small.ok (by simp) ?_
  unfold hallmarklaw17_small.ir
  obtain ⟨B, hB⟩ : ∃ B, B = O.mem false [] [m.cells] := ⟨_, rfl⟩
  have hBr : B.refs = [] := by rw [hB]; rfl
  refine vc_cut (At [(1, .ptr 0 1 0 0)] [B]) (by simp -dsimp [At, hB, Model.cells, vVars, vCons, vTerms]) ?_
  try clear h
  rintro ⟨sl, hp, bs⟩ ⟨rfl, h⟩
  simp only [sls_cons, sls_one, sls_nil] at h
  refine vc_cut (fun st => ∃ n : Int, 0 ≤ n ∧ n ≤ 100000000000000 ∧ At [(1, .ptr 0 1 0 0), (3, V.i n)] [B] st) ?_ ?_
  · have w1 : IntKind.i64.wrap ((m.vars.length : Int) + m.cons.length) = m.vars.length + m.cons.length := by rw [wrap64] <;> omega
    have w2 : IntKind.i64.wrap ((m.vars.length : Int) + m.cons.length + m.goal.length) = m.vars.length + m.cons.length + m.goal.length := by rw [wrap64] <;> omega
    simp -dsimp [h, At, hB, Model.cells, vVars, vCons, vTerms, w1, w2]
    omega
  rintro ⟨sl, hp, bs⟩ ⟨n, n0, n1, rfl, h⟩; simp only [sls_cons, sls_one] at h
  refine vc_cut (fun st => ∃ n : Int, 0 ≤ n ∧ n ≤ 100000000000000 ∧ At [(1, .ptr 0 1 0 0), (3, V.i n)] [B] st) ?_ ?_
  · refine vc_cut (At [(1, .ptr 0 1 0 0), (3, V.i n), (4, V.i 0)] [B]) (by simp -dsimp [h, At]) ?_
    try clear h
    rintro ⟨sl, hp, bs⟩ ⟨rfl, h⟩
    simp only [sls_cons, sls_one, sls_nil] at h
    refine vc_block_of (vc_upto 1 (by simp) m.cons.length (fun i st => ∃ n : Int, 0 ≤ n ∧ n ≤ 100000000000000 ∧ At [(1, .ptr 0 1 0 0), (3, V.i n), (4, V.i i)] [B] st) ⟨n, n0, n1, rfl, by simpa using h⟩ ?_)
    clear h n0 n1 n
    rintro i ⟨sl, hp, bs⟩ hi ⟨n, n0, n1, rfl, h⟩
    simp only [sls_cons, sls_one] at h
    unfold hallmarklaw17_small.b0
    by_cases hil : i < m.cons.length
    · by_cases hn : n ≤ 65536
      · have hw : IntKind.i64.wrap ((i : Int) + 1) = ((i + 1 : Nat) : Int) := by rw [wrap64] <;> omega
        obtain ⟨c, hcc⟩ : ∃ c, c = m.cons[i] := ⟨_, rfl⟩
        obtain ⟨_, zc1, zc2, zc3, _⟩ := z5 c (by rw [hcc]; exact List.getElem_mem hil)
        have w1 : IntKind.i64.wrap (n + c.terms.length) = n + c.terms.length := by rw [wrap64] <;> omega
        have w2 : IntKind.i64.wrap (n + c.terms.length + c.xs.length) = n + c.terms.length + c.xs.length := by rw [wrap64] <;> omega
        have w3 : IntKind.i64.wrap (n + c.terms.length + c.xs.length + c.table.length) = n + c.terms.length + c.xs.length + c.table.length := by rw [wrap64] <;> omega
        simp -dsimp [h, At, hil, hn, hw, hB, Model.cells, vVars, vCons, vTerms, ← hcc, Con.cells, vInts, w1, w2, w3]
        omega
      · simp -dsimp [h, At, hil, hn, hB, Model.cells, vVars, vCons, vTerms]
        omega
    · simp -dsimp [h, At, hil, hB, Model.cells, vVars, vCons, vTerms]
      omega
  rintro ⟨sl, hp, bs⟩ ⟨n, n0, n1, rfl, h⟩; simp only [sls_cons, sls_one] at h
  simp -dsimp [h, hallmarklaw17_small.rs]
end Go.Abs.G

namespace Go.Abs.G
open Go.Proofs
set_option linter.unusedVariables false
set_option linter.unusedSimpArgs false

def cutAll (s : List Dom) (l : List DCut) : List Dom := l.foldl (fun s c => (cutS s c.k c.x c.v).1) s
theorem cutAll_two {s : List Dom} {ms : List (List Dom)} (h : Two s ms) (l : List DCut) : Two (cutAll s l) ms := by
  induction l generalizing s with
  | nil => exact h
  | cons c l ih => exact ih (h.cut _ _ _)
theorem cutAll_take (s : List Dom) (l : List DCut) {i : Nat} (hi : i < l.length) : cutAll s (l.take (i + 1)) = (cutS (cutAll s (l.take i)) l[i].k l[i].x l[i].v).1 := by
  unfold cutAll; rw [List.take_succ_eq_append_getElem hi, List.foldl_append]; rfl
theorem stores_spec (m : Model) (l : List DCut) (hm : zModel m) (hl : l.length ≤ maxLen) : DC Tryz.prog hallmarklaw17_stores.id [.agg m.cells, vCuts l] [] (fun r H => r = .tup [.ptr 0 1 0 0, .ptr 1 1 0 0] ∧ H = [ST (cutAll (domsOf m) l) [], RT (cutAll (domsOf m) l) []]) := by
  refine DC.picks (Q := fun r H => r = .tup [.ptr 1 1 0 0, .ptr 2 1 0 0] ∧ ∃ B, H = [B, ST (cutAll (domsOf m) l) [], RT (cutAll (domsOf m) l) []]) ?_ ?_
  rotate_left
  · rintro r H ⟨rfl, B, rfl⟩
    exact ⟨[1, 2], ⟨by simp, by simp, by simp, by simp⟩, by simp, by simp [V.ids], rfl, by simp [sub]⟩
  have hM : (maxLen : Int) ≤ 9223372036854775807 := by decide
  refine DC.of hallmarklaw17_stores.ok (by simp) ?_
  unfold hallmarklaw17_stores.ir
  obtain ⟨B, hB⟩ : ∃ B, B = O.mem false [] [m.cells] := ⟨_, rfl⟩
  have hBr : B.refs = [] := by rw [hB]; rfl
  refine vc_cut (At [(1, vCuts l), (2, .ptr 0 1 0 0)] [B]) (by simp -dsimp [At, hB, Model.cells, vVars, vCons, vTerms]) ?_
  try clear h
  rintro ⟨sl, hp, bs⟩ ⟨rfl, h⟩
  simp only [sls_cons, sls_one, sls_nil] at h
  refine vc_cut (At [(1, vCuts l), (6, .ptr 1 1 0 0), (7, .ptr 2 1 0 0)] [B, ST (domsOf m) [], RT (domsOf m) []]) ?_ ?_
  · simp -dsimp [h, hB, Model.cells, vVars, vCons, vTerms]
    refine gcallo (newT m hm.1) (by simp -dsimp [h, Model.cells, vVars, vCons, vTerms]) (by simp [Model.cells, vVars, vCons, vTerms]) (by simp) ?_
    simp -dsimp [h, hB, Model.cells, vVars, vCons, vTerms]
    refine gcallo (newZ m hm.1) (by simp -dsimp [h, Model.cells, vVars, vCons, vTerms]) (by simp [Model.cells, vVars, vCons, vTerms]) (by simp) ?_
    simp -dsimp [h, At, hB, Model.cells, vVars, vCons, vTerms]
  try clear h
  rintro ⟨sl, hp, bs⟩ ⟨rfl, h⟩
  simp only [sls_cons, sls_one, sls_nil] at h
  refine vc_cut (At [(6, .ptr 1 1 0 0), (7, .ptr 2 1 0 0)] [B, ST (cutAll (domsOf m) l) [], RT (cutAll (domsOf m) l) []]) ?_ ?_
  · refine vc_cut (At [(1, vCuts l), (6, .ptr 1 1 0 0), (7, .ptr 2 1 0 0), (8, V.i 0)] [B, ST (domsOf m) [], RT (domsOf m) []]) (by simp -dsimp [h, At]) ?_
    try clear h
    rintro ⟨sl, hp, bs⟩ ⟨rfl, h⟩
    simp only [sls_cons, sls_one, sls_nil] at h
    refine vc_block_of (vc_upto 3 (by simp) l.length (fun i st => At [(1, vCuts l), (6, .ptr 1 1 0 0), (7, .ptr 2 1 0 0), (8, V.i i)] [B, ST (cutAll (domsOf m) (l.take i)) [], RT (cutAll (domsOf m) (l.take i)) []] st) ⟨rfl, by simpa using h⟩ ?_)
    clear h
    rintro i ⟨sl, hp, bs⟩ hi ⟨rfl, h⟩
    simp only [sls_cons, sls_one] at h
    unfold hallmarklaw17_stores.b0
    have ht : Two (cutAll (domsOf m) (l.take i)) [] := cutAll_two (Two.new m) _
    by_cases hil : i < l.length
    · have hw : IntKind.i64.wrap ((i : Int) + 1) = ((i + 1 : Nat) : Int) := by rw [wrap64] <;> omega
      have hc := cutAll_take (domsOf m) l hil
      obtain ⟨c, hcc⟩ : ∃ c, c = l[i] := ⟨_, rfl⟩
      rw [← hcc] at hc
      obtain ⟨s, hs⟩ : ∃ s, s = cutAll (domsOf m) (l.take i) := ⟨_, rfl⟩
      rw [← hs] at ht hc
      rw [← hs]
      simp -dsimp [h, hil, vCuts, ← hcc, DCut.cells]
      refine gcallm1 (cutT ht c.k c.x c.v) 1 (by simp -dsimp [h, addAll]) (by simp -dsimp [h]) (by simp) (by simp) (by simp) (by simp -dsimp [h, idx]) (by simp) ?_
      simp -dsimp [h, hil, vCuts, ← hcc, DCut.cells]
      refine gcallm1 (cutZ ht c.k c.x c.v) 2 (by simp -dsimp [h, addAll]) (by simp -dsimp [h]) (by simp) (by simp) (by simp) (by simp -dsimp [h, idx]) (by simp) ?_
      simp -dsimp [h, hil, hw, At, hc, hBr]
      rfl
    · have hil' : i = l.length := by omega
      subst hil'
      simp -dsimp [h, At, vCuts]
  try clear h
  rintro ⟨sl, hp, bs⟩ ⟨rfl, h⟩
  simp only [sls_cons, sls_one, sls_nil] at h
  simp -dsimp [h, hallmarklaw17_stores.rs]
end Go.Abs.G

namespace Go.Abs.G
open Go.Proofs
set_option linter.unusedVariables false
set_option linter.unusedSimpArgs false

/-- A script. -/
def SC (l : List Int) : O := .mem false [] [[vInts l]]
theorem SC_clo' (l : List Int) : (SC l).clo := ⟨rfl, fun f => by simp [SC], fun e => by cases e⟩
section
variable (l : List Int)
@[simp] theorem SC_clo : (SC l).clo = True := eq_true (SC_clo' l)
@[simp] theorem SC_isMem : (SC l).isMem = true := rfl
@[simp] theorem SC_refs : (SC l).refs = [] := rfl
@[simp] theorem SC_rows : (SC l).rows = [[vInts l]] := rfl
@[simp] theorem SC_tot (n : Nat) : (SC l).hasTot n = (1 = n) := rfl
@[simp] theorem SC_ren (f : Nat → Nat) : O.ren f (SC l) = SC l := (SC_clo' l).ren f
@[simp] theorem SC_nres : (SC l = .res) = False := eq_false (SC_clo' l).nres
end
theorem new17_spec (l : List Int) (hl : (l.length : Int) * 8 ≤ 140737488355328) : DC Tryz.prog branch_New.id [vInts l] [] (fun r H => r = .ptr 0 1 0 0 ∧ H = [SC l]) := by
  refine DC.of branch_New.ok (by simp) ?_
  unfold branch_New.ir
  have h := True.intro
  simp -dsimp []
  refine gcall (clone_int_pf (l.map fun n => [V.i n]) (by simpa using hl)) (by simp -dsimp [h, vInts, SC, branch_New.rs]) (by simp -dsimp [h, vInts, SC, branch_New.rs]) ?_
  simp -dsimp [h, vInts, SC, branch_New.rs]
theorem next17_spec (l : List Int) : DC Tryz.prog branch_list_Next.id [.ptr 0 1 0 0] [SC l] (fun r H => r = V.i (l.headD 0) ∧ H = [SC l.tail]) := by
  refine DC.of branch_list_Next.ok (by simp) ?_
  unfold branch_list_Next.ir
  cases l with
  | nil => simp -dsimp [SC, vInts, branch_list_Next.rs]
  | cons a l =>
    have hn : ¬ ((l.length : Int) + 1 = 0) := by omega
    simp -dsimp [SC, vInts, branch_list_Next.rs, hn]
    exact ⟨by omega, List.take_of_length_le (by simp)⟩

def m17 : Model := ⟨[⟨⟨#[120]⟩, 0, 3⟩, ⟨⟨#[121]⟩, 7, 7⟩, ⟨⟨#[122]⟩, 1, 2⟩], [], false, []⟩
theorem m17_ok : okModel m17 := by
  refine ⟨⟨by decide, fun v hv => ?_⟩, ⟨by decide, fun c hc => by cases hc⟩, by decide, fun t ht => by cases ht⟩
  simp only [m17, List.mem_cons, List.not_mem_nil, or_false] at hv
  rcases hv with rfl | rfl | rfl <;> exact ⟨by decide, ⟨by decide, by decide⟩, ⟨by decide, by decide⟩⟩
theorem m17_1 : pickB (domsOf m17) (-2) = (0, 3, true) := by decide +kernel
theorem m17_2 : pickB (domsOf m17) 5 = (2, 2, true) := by decide +kernel

theorem known17_spec : Pf Tryz.prog hallmarklaw17_known.id [] (.bool true) := by
  refine DC.of hallmarklaw17_known.ok (by simp) ?_
  unfold hallmarklaw17_known.ir
  have hnew := newT m17 m17_ok
  have hT := Two.new m17
  have p1 := pick_spec hT (-2) ⟨by decide, by decide⟩
  have p2 := pick_spec hT 5 ⟨by decide, by decide⟩
  rw [m17_1] at p1
  rw [m17_2] at p2
  generalize domsOf m17 = s at hnew hT p1 p2
  refine vc_cut (At [] []) (by simp -dsimp [At]) ?_
  try clear h
  rintro ⟨sl, hp, bs⟩ ⟨rfl, h⟩
  simp only [sls_cons, sls_one, sls_nil] at h
  refine vc_cut (fun st => ∃ A, At [(1, .ptr 1 1 0 0)] [A, ST s []] st) ?_ ?_
  · simp -dsimp [h]
    refine gcallo (zs := [.agg [vVars m17.vars, nilS, .bool false, nilS]]) (H0 := [ST s []]) (r0 := .ptr 0 1 0 0) (DC.sub (.cons (.agg (.cons (.refl _) (.cons (.nil 10) (.cons (.refl _) (.cons (.nil 2) .nil))))) .nil) hnew) (by simp -dsimp [vVars, m17, Var.cells]) (by simp -dsimp [vVars]) (by simp) ?_
    simp -dsimp [At]
  rintro ⟨sl, hp, bs⟩ ⟨A, rfl, h⟩; simp only [sls_one] at h
  refine vc_cut (fun st => ∃ A, At [(1, .ptr 1 1 0 0), (2, .ptr 3 1 0 0)] [A, ST s [], .res, SC [4, 5]] st) ?_ ?_
  · simp -dsimp [h]
    refine gcallm (new17_spec [4, 5] (by decide)) [] (by simp -dsimp [h, addAll, vInts]) ⟨by simp, by simp, by simp, by simp⟩ (by simp -dsimp [h, vInts]) (by simp [sub]) (by simp) ?_
    simp -dsimp [h, At, merge, place, back]
  rintro ⟨sl, hp, bs⟩ ⟨A, rfl, h⟩; simp only [sls_one, sls_cons] at h
  refine vc_cut (At [(1, .ptr 1 1 0 0)] [A, ST s [], .res, SC []]) ?_ ?_
  · simp -dsimp [h]
    refine gcallm1 (next17_spec [4, 5]) 3 (by simp -dsimp [h, addAll]) (by simp -dsimp [h]) (by simp) (by simp) (by simp) (by simp -dsimp [h, idx]) (by simp) ?_
    simp -dsimp [h]
    refine gcallm1 (next17_spec [5]) 3 (by simp -dsimp [h, addAll]) (by simp -dsimp [h]) (by simp) (by simp) (by simp) (by simp -dsimp [h, idx]) (by simp) ?_
    simp -dsimp [h]
    refine gcallm1 (next17_spec []) 3 (by simp -dsimp [h, addAll]) (by simp -dsimp [h]) (by simp) (by simp) (by simp) (by simp -dsimp [h, idx]) (by simp) ?_
    simp -dsimp [h, At]
  try clear h
  rintro ⟨sl, hp, bs⟩ ⟨rfl, h⟩
  simp only [sls_cons, sls_one, sls_nil] at h
  refine vc_cut (At [(1, .ptr 1 1 0 0), (3, V.i 0), (4, V.i 3), (5, .bool true)] [A, ST s [], .res, SC []]) ?_ ?_
  · simp -dsimp [h]
    refine gcallm1 (p1) 1 (by simp -dsimp [h, addAll]) (by simp -dsimp [h]) (by simp) (by simp) (by simp) (by simp -dsimp [h, idx]) (by simp) ?_
    simp -dsimp [h, pickV, At]
  try clear h
  rintro ⟨sl, hp, bs⟩ ⟨rfl, h⟩
  simp only [sls_cons, sls_one, sls_nil] at h
  refine vc_cut (At [(3, V.i 0), (4, V.i 3), (5, .bool true), (6, V.i 2), (7, V.i 2), (8, .bool true)] [A, ST s [], .res, SC []]) ?_ ?_
  · simp -dsimp [h]
    refine gcallm1 (p2) 1 (by simp -dsimp [h, addAll]) (by simp -dsimp [h]) (by simp) (by simp) (by simp) (by simp -dsimp [h, idx]) (by simp) ?_
    simp -dsimp [h, pickV, At]
  try clear h
  rintro ⟨sl, hp, bs⟩ ⟨rfl, h⟩
  simp only [sls_cons, sls_one, sls_nil] at h
  simp -dsimp [h, hallmarklaw17_known.rs]
end Go.Abs.G

namespace Go.Abs.G
open Go.Proofs
set_option linter.unusedVariables false
set_option linter.unusedSimpArgs false

theorem picks_law (m : Model) (l : List DCut) (n : Int) (hm : zModel m) (hl : zCuts l) (hn : I64 n) : Pf Tryz.prog hallmarklaw17_BranchPicks.id [.agg m.cells, vCuts l, V.i n] (.bool true) := by
  have hM : (maxLen : Int) ≤ 9223372036854775807 := by decide
  have hl1 := hl.1
  have hT := cutAll_two (Two.new m) l
  refine DC.of hallmarklaw17_BranchPicks.ok (by simp) ?_
  unfold hallmarklaw17_BranchPicks.ir
  obtain ⟨B, hB⟩ : ∃ B, B = O.mem false [] [m.cells] := ⟨_, rfl⟩
  refine vc_cut (At [(1, vCuts l), (2, V.i n), (3, .ptr 0 1 0 0)] [B]) (by simp -dsimp [At, hB, Model.cells, vVars, vCons, vTerms]) ?_
  try clear h
  rintro ⟨sl, hp, bs⟩ ⟨rfl, h⟩
  simp only [sls_cons, sls_one, sls_nil] at h
  refine vc_cut (At [(1, vCuts l), (2, V.i n), (3, .ptr 0 1 0 0)] [B]) ?_ ?_
  · simp -dsimp [h]
    refine gcall (known17_spec) (by simp -dsimp [h, At]) (by simp -dsimp [h, At]) ?_
    simp -dsimp [h, At]
  try clear h
  rintro ⟨sl, hp, bs⟩ ⟨rfl, h⟩
  simp only [sls_cons, sls_one, sls_nil] at h
  refine vc_cut (At [(1, vCuts l), (2, V.i n), (3, .ptr 0 1 0 0)] [B]) ?_ ?_
  · simp -dsimp [h, hB, Model.cells, vVars, vCons, vTerms]
    refine gcall_gen (small17_spec m hm) (by simp -dsimp [h, Model.cells, vVars, vCons, vTerms]) (by simp [Model.cells, vVars, vCons, vTerms]) ?_
    rintro r ⟨b, rfl⟩
    cases b
    · simp -dsimp [h, hallmarklaw17_BranchPicks.rs, vCuts]
    · by_cases h1 : l.length ≤ 300
      · have h1' : ¬ (300 : Int) < l.length := by omega
        simp -dsimp [h, At, hB, Model.cells, vVars, vCons, vTerms, vCuts, h1, h1']
      · have h1' : (300 : Int) < l.length := by omega
        simp -dsimp [h, hallmarklaw17_BranchPicks.rs, vCuts, h1']
  try clear h
  rintro ⟨sl, hp, bs⟩ ⟨rfl, h⟩
  simp only [sls_cons, sls_one, sls_nil] at h
  obtain ⟨s, hs⟩ : ∃ s, s = cutAll (domsOf m) l := ⟨_, rfl⟩
  have hst := stores_spec m l hm hl1
  rw [← hs] at hst hT
  refine vc_cut (At [(2, V.i n), (7, .ptr 1 1 0 0), (8, .ptr 2 1 0 0)] [B, ST s [], RT s []]) ?_ ?_
  · simp -dsimp [h, hB, Model.cells, vVars, vCons, vTerms, vCuts]
    refine gcallo hst (by simp -dsimp [h, Model.cells, vVars, vCons, vTerms, vCuts]) (by simp [Model.cells, vVars, vCons, vTerms, vCuts]) (by simp) ?_
    simp -dsimp [h, At, hB, Model.cells, vVars, vCons, vTerms, vCuts]
  try clear h
  rintro ⟨sl, hp, bs⟩ ⟨rfl, h⟩
  simp only [sls_cons, sls_one, sls_nil] at h
  refine vc_cut (At [(2, V.i n), (7, .ptr 1 1 0 0), (8, .ptr 2 1 0 0)] [B, ST s [], RT s []]) (by simp -dsimp [h, At]) ?_
  try clear h
  rintro ⟨sl, hp, bs⟩ ⟨rfl, h⟩
  simp only [sls_cons, sls_one, sls_nil] at h
  obtain ⟨p, hp⟩ : ∃ p, p = pickB s n := ⟨_, rfl⟩
  have q1 := pick_spec hT n hn
  have q2 := pickR_spec hT n hn
  rw [← hp] at q1 q2
  simp -dsimp [h]
  refine gcallm1 (q1) 1 (by simp -dsimp [h, addAll]) (by simp -dsimp [h]) (by simp) (by simp) (by simp) (by simp -dsimp [h, idx]) (by simp) ?_
  simp -dsimp [h, pickV]
  refine gcallm1 (q2) 2 (by simp -dsimp [h, addAll]) (by simp -dsimp [h]) (by simp) (by simp) (by simp) (by simp -dsimp [h, idx]) (by simp) ?_
  simp -dsimp [h, pickV, hallmarklaw17_BranchPicks.rs]
end Go.Abs.G
