import Derived.Test.YtkfpoacloidepaaAbsN
set_option linter.all false
/- append to what is owned. -/
namespace Go.Abs
set_option linter.unusedVariables false

section
variable {P : Program} {w : World} {H : Heap} {β : Nat → Hd} {F : Nat → Prop} {id : Nat} {refs refs' : List Nat} {rows ys : List (List V)}

theorem hdOf_new {β' : Nat → Hd} {h' : Hd} {rows' : List (List V)} (hid : H[id]? = some (.mem false refs rows)) :
    hdOf (H.set id (.mem false refs' rows')) (upd β id h') id = some (h'.wt rows'.length) := by
  unfold hdOf; rw [get_set hid, upd_same]

/-- Nothing is laid on: more may be named. -/
theorem app_same (hk : HOK w.heap H β F) (hid : H[id]? = some (.mem false refs rows)) (hs : ∀ i ∈ refs, i ∈ refs') : Adv F w H β w (H.set id (.mem false refs' rows)) β := by
  have hupd : upd β id (β id) = β := by funext k; unfold upd; split <;> simp_all
  obtain ⟨h1, h2, h3⟩ := hk.turn (hp' := w.heap) (o' := .mem false refs' rows) (h' := β id) hid (Nat.le_refl _) (fun _ _ _ => rfl)
    (fun b hb => by unfold ownsB at hb ⊢; rw [get_set hid, upd_same] at hb; rw [hid]; exact .inl hb)
    (by simp) (fun g' hg _ => by
      left; unfold hdOf at hg ⊢; rw [get_set hid, upd_same] at hg; rw [hid]; exact hg)
    (fun hle => by
      rcases hk.ro id _ hid with hr | ⟨q1, q2, q3, q4, q5, cs, E, fr, q6, q7, q8, q9⟩
      · exact .inl hr
      · refine .inr ⟨q1, q2, q3, q4, by simp, cs, E, fr, q6, q7, q8, fun i row hi hlo j x hj => ?_⟩
        obtain ⟨v, e1, e2, e3⟩ := q9 i row hi hlo j x hj
        exact ⟨v, e1, e2, (e3.mono (Cx.only_mono hs)).mono (hle.only _)⟩)
  rw [hupd] at h1 h2
  exact ⟨h1, h2, .refl _ _⟩

/-- Laid on in place. -/
theorem app_room {es n : Nat} {vs : List Value} (hk : HOK w.heap H β F) (hid : H[id]? = some (.mem false refs rows)) (hs : ∀ i ∈ refs, i ∈ refs') (hnil : (β id).nil = false) (hes : (β id).es = es)
    (hn : ys.length = n) (hpos : 0 < n) (hys : ∀ row ∈ ys, row.length = es) (hroom : rows.length - (β id).lo + n ≤ (β id).cap) (hvs : vs.length = n * es) (hone : ∀ v ∈ vs, v.oneCell' = true)
    (hr : ∀ (i : Nat) (row : List V) (j : Nat) (y : V), ys[i]? = some row → row[j]? = some y → ∃ u, vs[i * es + j]? = some u ∧ RV ((cx w.heap H β F).only refs') u y) :
    ∃ w', (storeCells ⟨(β id).b, (β id).o + (rows.length - (β id).lo) * es, none⟩ vs).run P w = .ok () w' ∧ Adv F w H β w' (H.set id (.mem false refs' (rows ++ ys))) β := by
  rcases hk.ro id _ hid with hro | ⟨q1, q2, q3, q4, q5, cs, E, fr, q6, q7, q8, q9⟩
  · rw [hro.1] at hnil; cases hnil
  obtain rfl := q7 rfl
  subst hes
  have hoff : (β id).o + (rows.length - (β id).lo) * (β id).es + vs.length ≤ cs.size := by
    have h2 : (rows.length - (β id).lo + n) * (β id).es ≤ (β id).cap * (β id).es := Nat.mul_le_mul_right _ hroom
    rw [Nat.add_mul] at h2
    omega
  have hbs : (β id).b < w.heap.size := hp_lt q6
  have hown : ∀ b, ownsB H β id b ↔ (β id).b = b := fun b => by unfold ownsB; rw [hid]; simp [q1]
  have hupd : upd β id (β id) = β := by funext k; unfold upd; split <;> simp_all
  refine ⟨_, run_storeCells (P := P) vs w cs 0 q6 (by simpa using hoff) hone, ?_⟩
  obtain ⟨h1, h2, h3⟩ := hk.turn (hp' := w.heap.setIfInBounds (β id).b (.cells (setFrom cs ((β id).o + (rows.length - (β id).lo) * (β id).es + 0) vs) E (0, 0)))
    (o' := .mem false refs' (rows ++ ys)) (h' := β id) hid (by simp)
    (fun b hb hn' => by rw [Array.getElem?_setIfInBounds, if_neg fun e => hn' ((hown b).2 e)])
    (fun b hb => by
      unfold ownsB at hb
      rw [get_set hid, upd_same] at hb
      exact .inl ((hown b).2 hb.2))
    (by simp) (fun g' hg _ => by
      right
      rw [hdOf_new (β' := β) hid] at hg
      injection hg with hg
      subst hg
      exact ⟨(β id).wt rows.length, by simp [hdOf, hid], by simp [Hd.wt]; omega⟩)
    (fun hle => by
      refine .inr ⟨q1, by simp; omega, by simp; omega, fun k r hk' => ?_, by simp, setFrom cs ((β id).o + (rows.length - (β id).lo) * (β id).es + 0) vs, E, (0, 0), ?_, by simp, by rw [setFrom_size]; exact q8, fun k r hk' hlok m x hm => ?_⟩
      · rw [List.getElem?_append] at hk'
        split at hk'
        · exact q4 k r hk'
        · exact hys r (List.mem_of_getElem? hk')
      · show (w.heap.setIfInBounds _ _)[(β id).b]? = _
        rw [Array.getElem?_setIfInBounds, if_pos rfl, if_pos hbs]
      · rw [setFrom_get _ _ _ _ (by simpa using hoff), Nat.add_zero]
        rw [List.getElem?_append] at hk'
        split at hk'
        · next hlt =>
          have hml : m < (β id).es := by rw [← q4 k r hk']; exact lt_of_get hm
          have h2 : (k - (β id).lo + 1) * (β id).es ≤ (rows.length - (β id).lo) * (β id).es := Nat.mul_le_mul_right _ (by omega)
          rw [Nat.add_mul] at h2
          rw [if_neg (by omega)]
          obtain ⟨v, e1, e2, e3⟩ := q9 k r hk' hlok m x hm
          exact ⟨v, e1, e2, (e3.mono (Cx.only_mono hs)).mono (hle.only _)⟩
        · next hge =>
          have hml : m < (β id).es := by rw [← hys r (List.mem_of_getElem? hk')]; exact lt_of_get hm
          have hkn : k - rows.length < n := by rw [← hn]; exact lt_of_get hk'
          have h2 : (k - rows.length + 1) * (β id).es ≤ n * (β id).es := Nat.mul_le_mul_right _ hkn
          rw [Nat.add_mul] at h2
          have e0 : (k - (β id).lo) * (β id).es = (rows.length - (β id).lo) * (β id).es + (k - rows.length) * (β id).es := by rw [← Nat.add_mul]; congr 1; omega
          rw [if_pos (by omega)]
          obtain ⟨u, hu, ru⟩ := hr _ r m x hk' hm
          refine ⟨u, ?_, hone u (List.mem_of_getElem? hu), ru.mono (hle.only _)⟩
          rw [← hu]; congr 1; omega)
  rw [hupd] at h1 h2
  exact ⟨h1, h2, ⟨rfl, rfl, rfl, by simp, fun b hb hn => by
    show (w.heap.setIfInBounds _ _)[b]? = _
    rw [Array.getElem?_setIfInBounds, if_neg fun e => hn ⟨id, (hown b).2 e⟩]⟩⟩

/-- Laid on in a new row. -/
theorem app_grow {es n k off cap : Nat} {olds news rest : Array Value} {E : TypeId} (hk : HOK w.heap H β F) (hid : H[id]? = some (.mem false refs rows)) (hs : ∀ i ∈ refs, i ∈ refs')
    (hoff : off ≤ rows.length) (hrows : ∀ (i : Nat) (row : List V), rows[i]? = some row → row.length = es) (hn : ys.length = n) (hpos : 0 < n) (hys : ∀ row ∈ ys, row.length = es) (hcap : rows.length - off + n ≤ cap)
    (hos : olds.size = (rows.length - off) * es) (hns : news.size = n * es) (hrs : rest.size = (cap - (rows.length - off + n)) * es)
    (hone : ∀ (i : Nat) (v : Value), olds[i]? = some v → v.oneCell' = true) (hone' : ∀ (i : Nat) (v : Value), news[i]? = some v → v.oneCell' = true)
    (ho : ∀ (i : Nat) (row : List V) (j : Nat) (y : V), (rows.drop off)[i]? = some row → row[j]? = some y → ∃ u, olds[i * es + j]? = some u ∧ RV ((cx w.heap H β F).only refs) u y)
    (hr : ∀ (i : Nat) (row : List V) (j : Nat) (y : V), ys[i]? = some row → row[j]? = some y → ∃ u, news[i * es + j]? = some u ∧ RV ((cx w.heap H β F).only refs') u y) :
    Adv F w H β { w with drawn := k, heap := w.heap.push (.cells (olds ++ news ++ rest) E) } (H.set id (.mem false refs' (rows ++ ys))) (upd β id ⟨w.heap.size, 0, cap, es, off, false, 0⟩) := by
  have hnew : ∀ b, ownsB (H.set id (.mem false refs' (rows ++ ys))) (upd β id ⟨w.heap.size, 0, cap, es, off, false, 0⟩) id b → w.heap.size ≤ b := by
    intro b hb
    unfold ownsB at hb
    rw [get_set hid] at hb
    obtain ⟨_, hb⟩ := hb
    rw [upd_same] at hb
    simp at hb; omega
  obtain ⟨h1, h2, h3⟩ := hk.turn (hp' := w.heap.push (.cells (olds ++ news ++ rest) E)) (o' := .mem false refs' (rows ++ ys)) (h' := ⟨w.heap.size, 0, cap, es, off, false, 0⟩) hid (by simp)
    (fun b hb _ => by rw [Array.getElem?_push_lt hb]; exact (Array.getElem?_eq_getElem hb).symm)
    (fun b hb => .inr (hnew b hb))
    (by simp) (fun g' hg _ => by
      right
      rw [hdOf_new (β' := β) hid] at hg
      injection hg with hg
      subst hg
      exact ⟨(β id).wt rows.length, by simp [hdOf, hid], by simp [Hd.wt]; omega⟩)
    (fun hle => by
      refine .inr ⟨rfl, by simp; omega, by simp; omega, fun i row hi => ?_, by simp, olds ++ news ++ rest, E, (0, 0), ?_, by simp, ?_, fun i row hi hlo j x hj => ?_⟩
      · rw [List.getElem?_append] at hi
        split at hi
        · exact hrows i row hi
        · exact hys row (List.mem_of_getElem? hi)
      · show (w.heap.push _)[w.heap.size]? = _
        simp
      · simp only [Array.size_append, hos, hns, hrs, Nat.zero_add, ← Nat.add_mul]
        exact Nat.mul_le_mul_right _ (by omega)
      · simp only [Nat.zero_add] at *
        rw [List.getElem?_append] at hi
        split at hi
        · next hlt =>
          have hi' : (rows.drop off)[i - off]? = some row := by rw [List.getElem?_drop, ← hi]; congr 1; omega
          obtain ⟨u, e1, e2⟩ := ho _ row j x hi' hj
          refine ⟨u, ?_, hone _ u e1, (e2.mono (Cx.only_mono hs)).mono (hle.only _)⟩
          have hl := (Array.getElem?_eq_some_iff.1 e1).1
          rw [Array.append_assoc, Array.getElem?_append, if_pos hl, e1]
        · next hge =>
          obtain ⟨u, e1, e2⟩ := hr _ row j x hi hj
          refine ⟨u, ?_, hone' _ u e1, e2.mono (hle.only _)⟩
          have hl := (Array.getElem?_eq_some_iff.1 e1).1
          have e0 : (i - off) * es = (rows.length - off) * es + (i - rows.length) * es := by rw [← Nat.add_mul]; congr 1; omega
          rw [Array.append_assoc, Array.getElem?_append, if_neg (by omega), Array.getElem?_append, if_pos (by omega), ← e1]
          congr 1; omega)
  exact ⟨h1, h2, ⟨rfl, rfl, rfl, by simp, fun b hb _ => by
    show (w.heap.push (.cells _ E))[b]? = _
    rw [Array.getElem?_push_lt hb]; exact (Array.getElem?_eq_getElem hb).symm⟩⟩

end
end Go.Abs
