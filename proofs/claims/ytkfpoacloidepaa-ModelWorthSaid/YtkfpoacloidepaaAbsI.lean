import Derived.Test.YtkfpoacloidepaaAbsH
set_option linter.all false
/- Memory that is made and written. -/
namespace Go.Abs
set_option linter.unusedVariables false

mutual
/-- The objects that a value names. -/
def V.ids : V → List Nat
  | .ptr id _ _ _ => [id]
  | .own id _ _ _ _ => [id]
  | .mp id => [id]
  | .agg cs => V.idsL cs
  | .tup cs => V.idsL cs
  | .fn _ fs cs => V.idsL fs ++ V.idsL cs
  | .ifc _ x => x.ids
  | _ => []
def V.idsL : List V → List Nat
  | [] => []
  | x :: l => x.ids ++ V.idsL l
end

theorem idsL_mem {l : List V} {i k : Nat} {x : V} (h : l[k]? = some x) (hi : i ∈ x.ids) : i ∈ V.idsL l := by
  induction l generalizing k with
  | nil => simp at h
  | cons y l ih =>
    simp only [V.idsL, List.mem_append]
    cases k with
    | zero => simp at h; subst h; exact .inl hi
    | succ k => exact .inr (ih h)

/-- Without other objects than those that it names. -/
theorem RV.onlyOf {c : Cx} {v : Value} {x : V} (h : RV c v x) (refs : List Nat) (hs : ∀ i ∈ x.ids, i ∈ refs) : RV (c.only refs) v x := by
  induction h with
  | any => exact .any
  | a => exact .a
  | ptr hl h => exact .ptr ⟨hs _ (by simp [V.ids]), hl⟩ h
  | own hl h => exact .own ⟨hs _ (by simp [V.ids]), hl⟩ h
  | ref g hb hs' hg hr ih =>
    refine .ref g hb hs' hg fun k x hk => ?_
    exact (hr k x hk).mono ⟨Nat.le_refl _, fun _ _ hn => ⟨rfl, hn⟩, fun _ hl => by simp [Cx.only] at hl, fun _ _ hl => by simp [Cx.only] at hl⟩
  | nilv => exact .nilv
  | view g hb hcap hlen hg hr ih =>
    refine .view g hb hcap hlen hg fun i row hi j x hj => ?_
    exact (hr i row hi j x hj).mono ⟨Nat.le_refl _, fun _ _ hn => ⟨rfl, hn⟩, fun _ hl => by simp [Cx.only] at hl, fun _ _ hl => by simp [Cx.only] at hl⟩
  | agg hl ho h ih => exact .agg hl ho fun i v x h1 h2 => ih i v x h1 h2 fun k hk => hs k (by simp only [V.ids]; exact idsL_mem h2 hk)
  | tup hl h ih => exact .tup hl fun i v x h1 h2 => ih i v x h1 h2 fun k hk => hs k (by simp only [V.ids]; exact idsL_mem h2 hk)
  | fn hl hl' h h' ih ih' =>
    exact .fn hl hl' (fun i v x h1 h2 => ih i v x h1 h2 fun k hk => hs k (by simp only [V.ids, List.mem_append]; exact .inl (idsL_mem h2 hk)))
      fun i v x h1 h2 => ih' i v x h1 h2 fun k hk => hs k (by simp only [V.ids, List.mem_append]; exact .inr (idsL_mem h2 hk))
  | mp hl h => exact .mp ⟨hs _ (by simp [V.ids]), hl⟩ h
  | mview hb hm hl hk hv ihk ihv =>
    have le : ∀ c : Cx, (c.only []).le ((c.only refs).only []) := fun c => ⟨Nat.le_refl _, fun _ _ hn => ⟨rfl, hn⟩, fun _ hl => by simp [Cx.only] at hl, fun _ _ hl => by simp [Cx.only] at hl⟩
    exact .mview hb hm hl (fun i e x he hx => (hk i e x he hx).mono (le _)) fun i e x he hx => (hv i e x he hx).mono (le _)
  | ifc h ih => exact .ifc (ih fun k hk => hs k (by simp only [V.ids]; exact hk))

/-- From one heap in memory to a later one. -/
structure Adv (F : Nat → Prop) (w : World) (H : Heap) (β : Nat → Hd) (w' : World) (H' : Heap) (β' : Nat → Hd) : Prop where
  hok : HOK w'.heap H' β' F
  le : (cx w.heap H β F).le (cx w'.heap H' β' F)
  ext : WExt (owned H β) w w'

theorem Adv.own {F : Nat → Prop} {w w' : World} {H H' : Heap} {β β' : Nat → Hd} (h : Adv F w H β w' H' β') : ∀ b, owned H' β' b → owned H β b ∨ w.heap.size ≤ b := by
  intro b hb
  by_cases hlt : b < w.heap.size
  · refine .inl (Classical.byContradiction fun hn => ?_)
    have hF : ¬ F b := fun e => (h.hok.far b e).2 hb
    exact (h.le.same b hlt fun e => e.elim hn hF).2 (.inl hb)
  · exact .inr (by omega)

theorem Cx.le.trans {a b c : Cx} (h : a.le b) (k : b.le c) : a.le c := by
  refine ⟨Nat.le_trans h.size k.size, fun x hx hn => ?_, fun i hi => k.live i (h.live i hi), fun i h'' hi e => ?_⟩
  · obtain ⟨h1, h2⟩ := h.same x hx hn
    obtain ⟨k1, k2⟩ := k.same x (Nat.lt_of_lt_of_le hx h.size) h2
    exact ⟨k1.trans h1, k2⟩
  · rcases k.hd i h'' (h.live i hi) e with e1 | ⟨g, e1, hlt⟩
    · exact h.hd i h'' hi e1
    · rcases h.hd i g hi e1 with e2 | ⟨g2, e2, hlt2⟩
      · exact .inr ⟨g, e2, hlt⟩
      · exact .inr ⟨g2, e2, by omega⟩

theorem Cx.le.refl (c : Cx) : c.le c := ⟨Nat.le_refl _, fun _ _ hn => ⟨rfl, hn⟩, fun _ h => h, fun _ _ _ e => .inl e⟩

theorem Adv.trans {F : Nat → Prop} {w w' w'' : World} {H H' H'' : Heap} {β β' β'' : Nat → Hd} (h : Adv F w H β w' H' β') (k : Adv F w' H' β' w'' H'' β'') : Adv F w H β w'' H'' β'' :=
  ⟨k.hok, h.le.trans k.le, h.ext.trans k.ext h.own⟩

theorem Rel.adv {w w' : World} {β β' : Nat → Hd} {F : Nat → Prop} {N : Nat} {st : St} {a : Act} {H' : Heap} (h : Rel w β F N st a) (k : Adv F w st.hp β w' H' β') : Rel w' β' F N { st with hp := H' } a :=
  ⟨k.hok, fun t => (h.sl t).mono k.le, h.df, h.sz⟩

/-- A new row of cells. -/
theorem new_mem {w : World} {H : Heap} {β : Nat → Hd} {F : Nat → Prop} {id es : Nat} {refs : List Nat} {rows : List (List V)} {cs : Array Value} {E : TypeId} (hk : HOK w.heap H β F)
    (hid : H[id]? = some .res) (hsz : cs.size = rows.length * es) (hrow : ∀ (i : Nat) (row : List V), rows[i]? = some row → row.length = es)
    (hc : ∀ (i : Nat) (row : List V) (j : Nat) (x : V), rows[i]? = some row → row[j]? = some x → ∃ v, cs[i * es + j]? = some v ∧ v.oneCell' = true ∧ RV ((cx w.heap H β F).only refs) v x) :
    Adv F w H β { w with heap := w.heap.push (.cells cs E) } (H.set id (.mem false refs rows)) (upd β id ⟨w.heap.size, 0, rows.length, es, 0, false, 0⟩) := by
  have hnob : ∀ b, ¬ ownsB H β id b := fun b e => by unfold ownsB at e; rw [hid] at e; exact e
  obtain ⟨h1, h2, h3⟩ := hk.turn (hp' := w.heap.push (.cells cs E)) (o' := .mem false refs rows) (h' := ⟨w.heap.size, 0, rows.length, es, 0, false, 0⟩) hid (by simp)
    (fun b hb _ => by rw [Array.getElem?_push_lt hb]; exact (Array.getElem?_eq_getElem hb).symm)
    (fun b hb => by
      unfold ownsB at hb
      rw [get_set hid] at hb
      obtain ⟨_, hb⟩ := hb
      rw [upd_same] at hb
      exact .inr (by simp at hb; omega))
    (by simp) (fun g' _ e => by simp at e)
    (fun hle => by
      refine .inr ⟨rfl, by simp, by simp, hrow, by simp, cs, E, (0, 0), ?_, by simp, by simp [hsz], fun i row hi _ j x hj => ?_⟩
      · show (w.heap.push (.cells cs E))[w.heap.size]? = _
        simp
      · obtain ⟨v, e1, e2, e3⟩ := hc i row j x hi hj
        exact ⟨v, by simpa using e1, e2, e3.mono (hle.only refs)⟩)
  exact ⟨h1, h2, ⟨rfl, rfl, rfl, by simp, fun b hb _ => by
    show (w.heap.push (.cells cs E))[b]? = _
    rw [Array.getElem?_push_lt hb]; exact (Array.getElem?_eq_getElem hb).symm⟩⟩

def setFrom (cs : Array Value) (k : Nat) : List Value → Array Value
  | [] => cs
  | v :: vs => setFrom (cs.setIfInBounds k v) (k + 1) vs

theorem setFrom_size (vs : List Value) : ∀ (cs : Array Value) (k : Nat), (setFrom cs k vs).size = cs.size := by
  induction vs with
  | nil => intro cs k; rfl
  | cons v vs ih => intro cs k; simp [setFrom, ih]

theorem setFrom_get (vs : List Value) : ∀ (cs : Array Value) (k m : Nat), k + vs.length ≤ cs.size → (setFrom cs k vs)[m]? = if k ≤ m ∧ m < k + vs.length then vs[m - k]? else cs[m]? := by
  induction vs with
  | nil => intro cs k m h; simp only [setFrom, List.length_nil, Nat.add_zero]; rw [if_neg (by omega)]
  | cons v vs ih =>
    intro cs k m h
    simp only [setFrom, List.length_cons] at h ⊢
    rw [ih _ _ _ (by simp; omega)]
    by_cases h1 : k + 1 ≤ m ∧ m < k + 1 + vs.length
    · rw [if_pos h1, if_pos (by omega), show m - k = (m - (k + 1)) + 1 from by omega]; rfl
    · rw [if_neg h1, Array.getElem?_setIfInBounds]
      by_cases h2 : k = m
      · subst h2; rw [if_pos rfl, if_pos (by omega), if_pos (by omega), Nat.sub_self]; rfl
      · rw [if_neg h2, if_neg (by omega)]

theorem run_storeCells {P : Program} {b o : Nat} {E : TypeId} (vs : List Value) : ∀ (w : World) (cs : Array Value) (i : Nat), w.heap[b]? = some (.cells cs E (0, 0)) → o + i + vs.length ≤ cs.size →
    (∀ v ∈ vs, v.oneCell' = true) →
    (storeCells ⟨b, o, none⟩ vs i).run P w = .ok () { w with heap := w.heap.setIfInBounds b (.cells (setFrom cs (o + i) vs) E (0, 0)) } := by
  induction vs with
  | nil =>
    intro w cs i hb hn _
    simp only [storeCells, Sem.run_pure, setFrom]
    have : w.heap.setIfInBounds b (.cells cs E (0, 0)) = w.heap := by
      apply Array.ext_getElem?
      intro k
      rw [Array.getElem?_setIfInBounds]
      split
      · next h => subst h; rw [if_pos (hp_lt hb), hb]
      · rfl
    rw [this]
  | cons v vs ih =>
    intro w cs i hb hn ho
    simp only [List.length_cons] at hn
    simp only [storeCells, Sem.run_bind, addr_add]
    rw [run_store _ _ _ _ _ (ho v (by simp)), cell?_look]
    have hl : look w.heap b (o + i) = some cs[o + i] := by unfold look; rw [hb]; exact Array.getElem?_eq_getElem (by omega)
    rw [hl]
    have hf : w.frozen? ⟨b, o + i, none⟩ = false := by unfold World.frozen?; rw [hb]; simp
    simp only [hf, Bool.false_eq_true, if_false, Result.andThen_ok]
    have hw : (w.setCell ⟨b, o + i, none⟩ v) = { w with heap := w.heap.setIfInBounds b (.cells (cs.setIfInBounds (o + i) v) E (0, 0)) } := by
      unfold World.setCell
      congr 1
      apply Array.ext_getElem?
      intro k
      rw [Array.getElem?_modify, Array.getElem?_setIfInBounds]
      split
      · next h => subst h; rw [if_pos (hp_lt hb), hb]; simp
      · rfl
    rw [hw, ih _ (cs.setIfInBounds (o + i) v) (i + 1) (by simp [hp_lt hb]) (by simp; omega) fun u hu => ho u (by simp [hu])]
    simp only [setFrom, Nat.add_assoc, Array.setIfInBounds_setIfInBounds]

def addRefs (refs : List Nat) : List Nat → List Nat
  | [] => refs
  | i :: l => addRefs (if i ∈ refs then refs else refs ++ [i]) l

theorem addRefs_left {i : Nat} (l : List Nat) : ∀ refs, i ∈ refs → i ∈ addRefs refs l := by
  induction l with
  | nil => intro refs h; exact h
  | cons k l ih => intro refs h; exact ih _ (by split; exact h; exact List.mem_append_left _ h)

theorem addRefs_right {i : Nat} (l : List Nat) : ∀ refs, i ∈ l → i ∈ addRefs refs l := by
  induction l with
  | nil => intro refs h; simp at h
  | cons k l ih =>
    intro refs h
    rcases List.mem_cons.1 h with rfl | h
    · refine addRefs_left l _ ?_
      split
      · assumption
      · simp
    · exact ih _ h

/-- A row with cells laid over from j on. -/
def rowSet (row : List V) (j : Nat) (xs : List V) : List V := row.take j ++ xs ++ row.drop (j + xs.length)

theorem rowSet_length {row : List V} {j : Nat} {xs : List V} (h : j + xs.length ≤ row.length) : (rowSet row j xs).length = row.length := by
  simp [rowSet]; omega

theorem rowSet_get {row : List V} {j : Nat} {xs : List V} (h : j + xs.length ≤ row.length) (k : Nat) : (rowSet row j xs)[k]? = if j ≤ k ∧ k < j + xs.length then xs[k - j]? else row[k]? := by
  simp only [rowSet, List.append_assoc]
  rw [List.getElem?_append]
  simp only [List.length_take, show min j row.length = j from by omega]
  by_cases h1 : k < j
  · rw [if_pos h1, if_neg (by omega), List.getElem?_take, if_pos h1]
  · rw [if_neg h1, List.getElem?_append]
    by_cases h2 : k - j < xs.length
    · rw [if_pos h2, if_pos (by omega)]
    · rw [if_neg h2, if_neg (by omega), List.getElem?_drop]
      congr 1; omega

theorem Cx.only_mono {c : Cx} {r r' : List Nat} (h : ∀ i ∈ r, i ∈ r') : (c.only r).le (c.only r') :=
  ⟨Nat.le_refl _, fun _ _ hn => ⟨rfl, hn⟩, fun _ hl => ⟨h _ hl.1, hl.2⟩, fun _ _ _ e => .inl e⟩

/-- Cells are written. -/
theorem wr_mem {P : Program} {w : World} {H : Heap} {β : Nat → Hd} {F : Nat → Prop} {id i j : Nat} {refs : List Nat} {rows : List (List V)} {row xs : List V} {vs : List Value} (hk : HOK w.heap H β F)
    (hid : H[id]? = some (.mem false refs rows)) (hi : rows[i]? = some row) (hlo : (β id).lo ≤ i) (hj : j + xs.length ≤ row.length) (hvs : vs.length = xs.length) (hone : ∀ v ∈ vs, v.oneCell' = true)
    (hr : ∀ (k : Nat) (v : Value) (x : V), vs[k]? = some v → xs[k]? = some x → RV (cx w.heap H β F) v x) :
    ∃ w', (storeCells ⟨(β id).b, (β id).o + (i - (β id).lo) * (β id).es + j, none⟩ vs).run P w = .ok () w' ∧
      Adv F w H β w' (H.set id (.mem false (addRefs refs (V.idsL xs)) (rows.set i (rowSet row j xs)))) β := by
  rcases hk.ro id _ hid with hro | ⟨q1, q2, q3, q4, q5, cs, E, fr, q6, q7, q8, q9⟩
  · rw [hro.2.1] at hi; simp at hi
  obtain rfl := q7 rfl
  have hil : i < rows.length := lt_of_get hi
  have hes := q4 i row hi
  have hoff : (β id).o + (i - (β id).lo) * (β id).es + j + vs.length ≤ cs.size := by
    have h1 : i - (β id).lo + 1 ≤ (β id).cap := by omega
    have h2 : (i - (β id).lo + 1) * (β id).es ≤ (β id).cap * (β id).es := Nat.mul_le_mul_right _ h1
    rw [Nat.add_mul] at h2
    omega
  have hbs : (β id).b < w.heap.size := hp_lt q6
  refine ⟨_, run_storeCells (P := P) vs w cs 0 q6 (by simpa using hoff) hone, ?_⟩
  have hown : ∀ b, ownsB H β id b ↔ (β id).b = b := fun b => by unfold ownsB; rw [hid]; simp [q1]
  have hupd : upd β id (β id) = β := by funext k; unfold upd; split <;> simp_all
  obtain ⟨h1, h2, h3⟩ := hk.turn (hp' := w.heap.setIfInBounds (β id).b (.cells (setFrom cs ((β id).o + (i - (β id).lo) * (β id).es + j + 0) vs) E (0, 0)))
    (o' := .mem false (addRefs refs (V.idsL xs)) (rows.set i (rowSet row j xs))) (h' := β id) hid (by simp)
    (fun b hb hn => by rw [Array.getElem?_setIfInBounds, if_neg fun e => hn ((hown b).2 e)])
    (fun b hb => by
      unfold ownsB at hb
      rw [get_set hid, upd_same] at hb
      exact .inl ((hown b).2 hb.2))
    (by simp) (fun g' hg _ => by
      left
      unfold hdOf at hg ⊢
      rw [get_set hid, upd_same] at hg
      rw [hid]
      simpa using hg)
    (fun hle => by
      refine .inr ⟨q1, by simpa using q2, by simpa using q3, fun k r hk' => ?_, by simp, setFrom cs ((β id).o + (i - (β id).lo) * (β id).es + j + 0) vs, E, (0, 0), ?_, by simp, by rw [setFrom_size]; exact q8, fun k r hk' hlok m x hm => ?_⟩
      · rw [List.getElem?_set] at hk'
        split at hk'
        · next e =>
          subst e
          injection hk' with hk'
          rw [← hk', rowSet_length hj]; exact hes
        · exact q4 k r hk'
      · show (w.heap.setIfInBounds _ _)[(β id).b]? = _
        rw [Array.getElem?_setIfInBounds, if_pos rfl, if_pos hbs]
      · rw [setFrom_get _ _ _ _ (by simpa using hoff), Nat.add_zero]
        rw [List.getElem?_set] at hk'
        have up : ∀ {v : Value} {y : V}, RV ((cx w.heap H β F).only refs) v y → RV ((cx (w.heap.setIfInBounds (β id).b (.cells (setFrom cs ((β id).o + (i - (β id).lo) * (β id).es + j + 0) vs) E (0, 0))) (H.set id (.mem false (addRefs refs (V.idsL xs)) (rows.set i (rowSet row j xs)))) (upd β id (β id)) F).only (addRefs refs (V.idsL xs))) v y :=
          fun hv => (hv.mono (Cx.only_mono fun i hi => addRefs_left _ _ hi)).mono (hle.only _)
        split at hk'
        · next e =>
          subst e
          injection hk' with hk'
          subst hk'
          rw [rowSet_get hj] at hm
          by_cases hin : j ≤ m ∧ m < j + xs.length
          · rw [if_pos hin] at hm
            rw [if_pos (by omega), show (β id).o + (i - (β id).lo) * (β id).es + m - ((β id).o + (i - (β id).lo) * (β id).es + j) = m - j from by omega]
            have hv : vs[m - j]? = some vs[m - j] := List.getElem?_eq_getElem (by omega)
            refine ⟨_, hv, hone _ (List.mem_of_getElem? hv), ?_⟩
            exact ((hr _ _ _ hv hm).onlyOf _ fun q hq => addRefs_right _ _ (idsL_mem hm hq)).mono (hle.only _)
          · rw [if_neg hin] at hm
            rw [if_neg (by omega)]
            obtain ⟨v, e1, e2, e3⟩ := q9 i row hi hlo m x hm
            exact ⟨v, e1, e2, up e3⟩
        · next e =>
          have hml : m < (β id).es := by rw [← q4 k r hk']; exact lt_of_get hm
          have hout : ¬ ((β id).o + (i - (β id).lo) * (β id).es + j ≤ (β id).o + (k - (β id).lo) * (β id).es + m ∧ (β id).o + (k - (β id).lo) * (β id).es + m < (β id).o + (i - (β id).lo) * (β id).es + j + vs.length) := by
            intro ⟨a1, a2⟩
            rcases Nat.lt_or_gt_of_ne e with e | e
            · have h1 : i - (β id).lo + 1 ≤ k - (β id).lo := by omega
              have h2 : (i - (β id).lo + 1) * (β id).es ≤ (k - (β id).lo) * (β id).es := Nat.mul_le_mul_right _ h1
              rw [Nat.add_mul] at h2
              omega
            · have h1 : k - (β id).lo + 1 ≤ i - (β id).lo := by omega
              have h2 : (k - (β id).lo + 1) * (β id).es ≤ (i - (β id).lo) * (β id).es := Nat.mul_le_mul_right _ h1
              rw [Nat.add_mul] at h2
              omega
          rw [if_neg hout]
          obtain ⟨v, e1, e2, e3⟩ := q9 k r hk' hlok m x hm
          exact ⟨v, e1, e2, up e3⟩)
  rw [hupd] at h1 h2
  exact ⟨h1, h2, ⟨rfl, rfl, rfl, by simp, fun b hb hn => by
    show (w.heap.setIfInBounds _ _)[b]? = _
    rw [Array.getElem?_setIfInBounds, if_neg fun e => hn ⟨id, (hown b).2 e⟩]⟩⟩

end Go.Abs
