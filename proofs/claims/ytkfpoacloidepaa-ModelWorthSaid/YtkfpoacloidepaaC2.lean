import Derived.Test.YtkfpoacloidepaaMFns
import Derived.Test.YtkfpoacloidepaaMdW
set_option linter.all false
namespace Go.Abs.G
open Go.Proofs
set_option linter.unusedVariables false

theorem within_spec (n most : Int) (h0 : 0 ≤ most) (h1 : most ≤ 9223372036854775807) : Pf Try.prog model_within.id [V.i n, V.i most] (.bool (withinB n most)) := by
  refine DC.of model_within.ok (by simp) ?_
  have hw : IntKind.i64.wrap (-most) = -most := wrap64 (by omega) (by omega)
  simp [model_within.ir, model_within.rs, hw, withinB]
  by_cases h : -most ≤ n <;> simp [h] <;> omega

theorem great1_spec (n : Int) : Pf Try.prog model_great_1.id [V.i n] (.bool (!withinB n 1000000000)) := by
  refine DC.of model_great_1.ok (by simp) ?_
  simp [model_great_1.ir, model_great_1.rs]
  exact (within_spec n 1000000000 (by decide) (by decide)).use (by simp)

/-- The place of the first of which something is told. -/
def firstAt {α : Type} (p : α → Bool) : Nat → List α → Int
  | _, [] => -1
  | i, x :: l => if p x then i else firstAt p (i + 1) l

theorem firstAt_any {α : Type} (p : α → Bool) : ∀ (l : List α) (i : Nat), decide (0 ≤ firstAt p i l) = l.any p := by
  intro l
  induction l with
  | nil => intro i; simp [firstAt]
  | cons x l ih =>
    intro i
    simp only [firstAt, List.any_cons]
    by_cases h : p x = true
    · simp [h]
    · simp [h, ih]

theorem firstAt_drop {α : Type} (p : α → Bool) {l : List α} {i : Nat} (h : i < l.length) : firstAt p i (l.drop i) = if p l[i] then (i : Int) else firstAt p (i + 1) (l.drop (i + 1)) := by
  rw [List.drop_eq_getElem_cons h]; rfl

theorem index_int_spec {f : FuncId} {cap : List V} {p : Int → Bool} {l : List Int} (hok : okFunc Try.prog f = true) (hids : V.idsL cap = []) (hg : ∀ t ∈ l, DP Try.prog f (V.i t :: cap) fun r => r = .bool (p t)) (hl : l.length ≤ maxLen) :
    Pf Try.prog slices_IndexFunc_int_int.id [vInts l, .fn (.func f) [] cap] (V.i (firstAt p 0 l)) := by
  have hm : (maxLen : Int) ≤ 9223372036854775807 := by decide
  refine DC.of slices_IndexFunc_int_int.ok (by simp) ?_
  simp [slices_IndexFunc_int_int.ir, slices_IndexFunc_int_int.rs, vInts]
  refine WI.loop 0 (by simp) (fun s => ∃ i, i ≤ l.length ∧ gt s.sl 1 = .fn (.func f) [] cap ∧ gt s.sl 0 = vInts l ∧ gt s.sl 7 = V.i l.length ∧ gt s.sl 8 = V.i i ∧ s.hp = [] ∧ firstAt p 0 l = firstAt p i (l.drop i)) (fun s => (l.length - (gt s.sl 8).num).toNat) ?_ ?_
  · exact ⟨0, by simp [vInts]⟩
  · rintro ⟨sl, hp, bs⟩ ⟨i, hi, h1, h0, h7, h8, rfl, he⟩
    by_cases hil : i < l.length
    · simp [slices_IndexFunc_int_int.b0, h1, h0, h7, h8, vInts, hil, hok, hids]
      refine DP.mono (hg _ (List.getElem_mem hil)) fun r hr => ?_
      subst hr
      rw [firstAt_drop p hil] at he
      have hw : IntKind.i64.wrap ((i : Int) + 1) = ((i + 1 : Nat) : Int) := by rw [wrap64] <;> omega
      cases hp : p l[i]
      · simp [hw, he, hp]
        exact ⟨⟨i + 1, by omega, by omega, rfl⟩, by omega⟩
      · simp [he, hp]
    · obtain rfl : i = l.length := by omega
      simp [slices_IndexFunc_int_int.b0, h1, h0, h7, h8, he, firstAt]

theorem contains_int_spec {f : FuncId} {cap : List V} {p : Int → Bool} {l : List Int} (hok : okFunc Try.prog f = true) (hids : V.idsL cap = []) (hg : ∀ t ∈ l, DP Try.prog f (V.i t :: cap) fun r => r = .bool (p t)) (hl : l.length ≤ maxLen) :
    Pf Try.prog slices_ContainsFunc_int_int.id [vInts l, .fn (.func f) [] cap] (.bool (l.any p)) := by
  refine DC.of slices_ContainsFunc_int_int.ok (by simp) ?_
  simp [slices_ContainsFunc_int_int.ir, slices_ContainsFunc_int_int.rs, vInts, hids]
  refine (index_int_spec hok hids hg hl).use ?_
  simp [firstAt_any]

theorem great_spec (l : List Int) (hl : l.length ≤ maxLen) : Pf Try.prog model_great.id [vInts l] (.bool (greatB l)) := by
  refine DC.of model_great.ok (by simp) ?_
  simp [model_great.ir, model_great.rs, vInts]
  refine (contains_int_spec (by simp) (by simp) (fun t _ => great1_spec t) hl).use ?_
  simp [greatB]

theorem counts_spec (b : Bool) (n : Nat) : Pf Try.prog model_counts.id [.bool b, V.i n] (.bool (countsB b n)) := by
  refine DC.of model_counts.ok (by simp) ?_
  simp [model_counts.ir, model_counts.rs, countsB]
  cases b <;> by_cases h : 1 ≤ n <;> simp [h] <;> omega

end Go.Abs.G
