import Derived.Test.YtkfpoacloidepaaAbsM
set_option linter.all false
/- append: the machine does so. -/
namespace Go.Abs
set_option linter.unusedVariables false

theorem run_append_room {P : Program} {w w' : World} {t t2 ty e e2 : TypeId} {i : TypeInfo} {base xb : Option Addr} {sLen sCap m c : Nat} {news : Array Value}
    (ht : P.underlying t = some (.slice e)) (ht2 : P.underlying t2 = some (.slice e2)) (hi : P.info? e = some i) (hf : (Builtin.firstCells i.size m (.slice xb m c)).run P w = .ok news w)
    (hroom : sLen + m ≤ sCap) (hst : (match base with | some a => storeCells (a.add (sLen * i.size)) news.toList | none => pure () : Sem Unit).run P w = .ok () w') :
    (Builtin.append_ #[t, t2] ty #[.slice base sLen sCap, .slice xb m c]).run P w = .ok (.slice base (sLen + m) sCap) w' := by
  cases base with
  | none =>
    simp only [Sem.run_pure, Result.ok.injEq, true_and] at hst
    subst hst
    simp [Builtin.append_, run_underlying' ht, run_underlying' ht2, run_sizeOf' hi, Builtin.lenOf, hroom, hf]
  | some a =>
    simp only at hst
    simp [Builtin.append_, run_underlying' ht, run_underlying' ht2, run_sizeOf' hi, Builtin.lenOf, hroom, hf, hst]

theorem zeroCells_size {z : Array Value} {n : Nat} : (Builtin.zeroCells z n).size = n * z.size := by simp [Builtin.zeroCells]

theorem run_append_grow {P : Program} {w : World} {t t2 ty e e2 : TypeId} {i : TypeInfo} {z : Value} {base xb : Option Addr} {sLen sCap m c : Nat} {news olds : Array Value}
    (ht : P.underlying t = some (.slice e)) (ht2 : P.underlying t2 = some (.slice e2)) (hi : P.info? e = some i) (hz : i.zero = some z) (hb : 0 < i.bytes)
    (ho : (Builtin.firstCells i.size sLen (.slice base sLen sCap)).run P { w with drawn := w.drawn + 1 } = .ok olds { w with drawn := w.drawn + 1 })
    (hf : (Builtin.firstCells i.size m (.slice xb m c)).run P { w with drawn := w.drawn + 1 } = .ok news { w with drawn := w.drawn + 1 })
    (hroom : sCap < sLen + m) (hbytes : (sLen + m) * i.bytes ≤ 140737488355328) :
    ∃ newCap, sLen + m ≤ newCap ∧ (Builtin.append_ #[t, t2] ty #[.slice base sLen sCap, .slice xb m c]).run P w =
      .ok (.slice (some ⟨w.heap.size, 0, none⟩) (sLen + m) newCap) { w with drawn := w.drawn + 1, heap := w.heap.push (.cells (olds ++ news ++ Builtin.zeroCells z.cells (newCap - (sLen + m))) e) } := by
  have hfit := growslice_fits hroom hbytes
  have hq : (Question.appendCap (sLen + m) sCap e).forced = false := rfl
  have h63 : sLen + m < 2 ^ 63 := by
    have : sLen + m ≤ (sLen + m) * i.bytes := Nat.le_mul_of_pos_right _ hb
    omega
  refine ⟨(Question.appendCap (sLen + m) sCap e).cut (w.tape w.drawn (Question.appendCap (sLen + m) sCap e)), ?_, ?_⟩
  · simp only [Question.cut]; omega
  · simp only [Builtin.append_]
    simp only [List.size_toArray, List.length_cons, List.length_nil, Nat.zero_add, Nat.reduceAdd, Nat.lt_add_one, Nat.zero_lt_succ, getElem?_pos, List.getElem_toArray, List.getElem_cons_zero, List.getElem_cons_succ, Sem.run_bind, run_underlying' ht, run_underlying' ht2, Result.andThen_ok, run_sizeOf' hi, Builtin.lenOf, Sem.run_pure, Bool.false_eq_true, if_false, run_typeInfo' hi]
    rw [if_neg (by omega)]
    simp only [Sem.run_bind, run_typeInfo' hi, Result.andThen_ok, Sem.run_pure, Sem.run_ite, false_or, show ¬ i.bytes = 0 from by omega, and_false, if_false]
    rw [if_neg (show ¬ (Builtin.nextslicecap (sLen + m) sCap * i.bytes > 2 ^ 48) from by omega)]
    simp only [Sem.run_bind, run_choose, hq, Bool.false_eq_true, if_false, Result.andThen_ok, run_typeInfo' hi, run_askRoom, ho, hf, run_zeroValue' hi hz, newRow, run_newObj, Sem.run_pure, Bool.not_false, if_true]

/-- A new row of cells, with room behind. -/
theorem new_cap {w : World} {H : Heap} {β : Nat → Hd} {F : Nat → Prop} {id es cap n : Nat} {refs : List Nat} {rows : List (List V)} {cs : Array Value} {E : TypeId} (hk : HOK w.heap H β F)
    (hid : H[id]? = some .res) (hcap : rows.length ≤ cap) (hsz : cap * es ≤ cs.size) (hrow : ∀ (i : Nat) (row : List V), rows[i]? = some row → row.length = es)
    (hc : ∀ (i : Nat) (row : List V) (j : Nat) (x : V), rows[i]? = some row → row[j]? = some x → ∃ v, cs[i * es + j]? = some v ∧ v.oneCell' = true ∧ RV ((cx w.heap H β F).only refs) v x) :
    Adv F w H β { w with drawn := n, heap := w.heap.push (.cells cs E) } (H.set id (.mem false refs rows)) (upd β id ⟨w.heap.size, 0, cap, es, 0, false, 0⟩) := by
  have hnob : ∀ b, ¬ ownsB H β id b := fun b e => by unfold ownsB at e; rw [hid] at e; exact e
  obtain ⟨h1, h2, h3⟩ := hk.turn (hp' := w.heap.push (.cells cs E)) (o' := .mem false refs rows) (h' := ⟨w.heap.size, 0, cap, es, 0, false, 0⟩) hid (by simp)
    (fun b hb _ => by rw [Array.getElem?_push_lt hb]; exact (Array.getElem?_eq_getElem hb).symm)
    (fun b hb => by
      unfold ownsB at hb
      rw [get_set hid] at hb
      obtain ⟨_, hb⟩ := hb
      rw [upd_same] at hb
      exact .inr (by simp at hb; omega))
    (by simp) (fun g' _ e => by simp at e)
    (fun hle => by
      refine .inr ⟨rfl, by simp, by simpa using hcap, hrow, by simp, cs, E, (0, 0), ?_, by simp, by simpa using hsz, fun i row hi _ j x hj => ?_⟩
      · show (w.heap.push (.cells cs E))[w.heap.size]? = _
        simp
      · obtain ⟨v, e1, e2, e3⟩ := hc i row j x hi hj
        exact ⟨v, by simpa using e1, e2, e3.mono (hle.only refs)⟩)
  exact ⟨h1, h2, ⟨rfl, rfl, rfl, by simp, fun b hb _ => by
    show (w.heap.push (.cells cs E))[b]? = _
    rw [Array.getElem?_push_lt hb]; exact (Array.getElem?_eq_getElem hb).symm⟩⟩

/-- A row that is nothing yet. -/
theorem new_nil {w : World} {H : Heap} {β : Nat → Hd} {F : Nat → Prop} {id es : Nat} {refs : List Nat} (hk : HOK w.heap H β F) (hid : H[id]? = some .res) :
    Adv F w H β w (H.set id (.mem false refs [])) (upd β id ⟨0, 0, 0, es, 0, true, 0⟩) := by
  have hnob : ∀ b, ¬ ownsB H β id b := fun b e => by unfold ownsB at e; rw [hid] at e; exact e
  obtain ⟨h1, h2, h3⟩ := hk.turn (hp' := w.heap) (o' := .mem false refs []) (h' := ⟨0, 0, 0, es, 0, true, 0⟩) hid (Nat.le_refl _) (fun _ _ _ => rfl)
    (fun b hb => by
      unfold ownsB at hb
      rw [get_set hid] at hb
      obtain ⟨hb, _⟩ := hb
      rw [upd_same] at hb
      cases hb)
    (by simp) (fun g' _ e => by simp at e) (fun hle => .inl ⟨rfl, rfl, rfl⟩)
  exact ⟨h1, h2, .refl _ _⟩

theorem nil_own {H : Heap} {id es : Nat} {refs : List Nat} (hid : H[id]? = some .res) {hp : Array Obj} {F : Nat → Prop} {β : Nat → Hd} :
    RV (cx hp (H.set id (.mem false refs [])) (upd β id ⟨0, 0, 0, es, 0, true, 0⟩) F) (.slice none 0 0) (.own id es 0 0 0) := by
  refine .own ⟨_, get_set hid, by simp⟩ fun h e => ?_
  have e1 : hdOf (H.set id (.mem false refs [])) (upd β id ⟨0, 0, 0, es, 0, true, 0⟩) id = some ((upd β id ⟨0, 0, 0, es, 0, true, 0⟩ id).wt 0) := by
    unfold hdOf; rw [get_set hid]; rfl
  have e2 : some h = some ((upd β id ⟨0, 0, 0, es, 0, true, 0⟩ id).wt 0) := e.symm.trans e1
  injection e2 with e2
  subst e2
  rw [upd_same]
  exact ⟨Nat.le_refl _, fun _ => ⟨Nat.le_refl _, rfl, .inl ⟨rfl, rfl, rfl⟩⟩⟩

theorem cap_own {H : Heap} {id es n cap : Nat} {refs : List Nat} {rows : List (List V)} {b : Nat} (hid : H[id]? = some .res) {hp : Array Obj} {F : Nat → Prop} {β : Nat → Hd} (hn : rows.length = n) :
    RV (cx hp (H.set id (.mem false refs rows)) (upd β id ⟨b, 0, cap, es, 0, false, 0⟩) F) (.slice (some ⟨b, 0, none⟩) n cap) (.own id es 0 n n) := by
  refine .own ⟨_, get_set hid, by simp⟩ fun h e => ?_
  have e1 : hdOf (H.set id (.mem false refs rows)) (upd β id ⟨b, 0, cap, es, 0, false, 0⟩) id = some ((upd β id ⟨b, 0, cap, es, 0, false, 0⟩ id).wt rows.length) := by
    unfold hdOf; rw [get_set hid]
  have e2 : some h = some ((upd β id ⟨b, 0, cap, es, 0, false, 0⟩ id).wt rows.length) := e.symm.trans e1
  injection e2 with e2
  subst e2
  rw [upd_same]
  exact ⟨by show n ≤ rows.length; omega, fun _ => ⟨Nat.zero_le _, rfl, .inr ⟨rfl, _, rfl, by show 0 + n ≤ rows.length; omega, fun _ => by simp [Hd.wt]⟩⟩⟩

end Go.Abs
