import Derived.Test.YtkfpoacloidepaaAbsP
set_option linter.all false
/- Maps written; walks over texts. -/
namespace Go.Abs
set_option linter.unusedVariables false

section
variable {P : Program} {w : World} {β : Nat → Hd} {F : Nat → Prop} {N : Nat} {st : St} {a : Act}

theorem new_obj {H : Heap} {id : Nat} {o : O} {ob : Obj} (hk : HOK w.heap H β F) (hid : H[id]? = some .res) (hno : o ≠ .res) (ho : ∀ b, ownsB (H.set id o) (upd β id ⟨w.heap.size, 0, 0, 0, 0, false, 0⟩) id b → b = w.heap.size)
    (hro : ∀ c, c.hp[w.heap.size]? = some ob → RO c ⟨w.heap.size, 0, 0, 0, 0, false, 0⟩ o) :
    Adv F w H β { w with heap := w.heap.push ob } (H.set id o) (upd β id ⟨w.heap.size, 0, 0, 0, 0, false, 0⟩) := by
  have hnob : ∀ b, ¬ ownsB H β id b := fun b e => by unfold ownsB at e; rw [hid] at e; exact e
  obtain ⟨h1, h2, h3⟩ := hk.turn (hp' := w.heap.push ob) (o' := o) (h' := ⟨w.heap.size, 0, 0, 0, 0, false, 0⟩) hid (by simp)
    (fun b hb _ => by rw [Array.getElem?_push_lt hb]; exact (Array.getElem?_eq_getElem hb).symm)
    (fun b hb => .inr (Nat.le_of_eq (ho b hb).symm)) hno (fun g' _ e => by simp at e)
    (fun hle => hro _ (by show (w.heap.push ob)[w.heap.size]? = _; simp))
  exact ⟨h1, h2, ⟨rfl, rfl, rfl, by simp, fun b hb _ => by
    show (w.heap.push ob)[b]? = _
    rw [Array.getElem?_push_lt hb]; exact (Array.getElem?_eq_getElem hb).symm⟩⟩

/-- The object in its own block is changed there. -/
theorem wr_obj {H : Heap} {id : Nat} {o o' : O} {ob ob' : Obj} (hk : HOK w.heap H β F) (hid : H[id]? = some o) (hown : ownsB H β id (β id).b) (hhp : w.heap[(β id).b]? = some ob)
    (hno : o' ≠ .res) (ho : ∀ b, ownsB (H.set id o') β id b → b = (β id).b) (hhd : hdOf (H.set id o') β id = hdOf H β id)
    (hro : ∀ c, (cx w.heap H β F).le c → c.hp[(β id).b]? = some ob' → RO c (β id) o') :
    Adv F w H β { w with heap := w.heap.setIfInBounds (β id).b ob' } (H.set id o') β := by
  have hlt := hp_lt hhp
  obtain ⟨h1, h2, h3⟩ := hk.turn (hp' := w.heap.setIfInBounds (β id).b ob') (o' := o') (h' := β id) hid (by simp)
    (fun b hb hn => by
      rw [Array.getElem?_setIfInBounds_ne]
      intro e; subst e; exact hn hown)
    (fun b hb => by rw [upd_self] at hb; rw [ho b hb]; exact .inl hown) hno (fun g' hg _ => by rw [upd_self] at hg; rw [hhd] at hg; exact .inl hg)
    (fun hle => by
      refine hro _ (by rw [upd_self] at hle ⊢; exact hle) ?_
      show (w.heap.setIfInBounds (β id).b ob')[(β id).b]? = _
      simp [hlt])
  rw [upd_self] at h1 h2
  exact ⟨h1, h2, ⟨rfl, rfl, rfl, by simp, fun b hb hn => by
    show (w.heap.setIfInBounds (β id).b ob')[b]? = _
    rw [Array.getElem?_setIfInBounds_ne]
    intro e; subst e; exact hn ⟨id, hown⟩⟩⟩

theorem sound_mkm {o : Oper} {t : TypeId} {r : Nat} (hR : Rel w β F N st a) (ho : o.op = .makeMap t none) (hd : ∀ t, o.dst = some t → t < N) {k : St → Prop} (h : (I.mkm o.dst r).vc P k st) (Q : Exit → Act → World → Prop) :
    o.wp P a w (Then P F N w st β k) Q := by
  have hk := hR.hok
  obtain ⟨p1, p2⟩ := h
  have adv := new_obj (o := .map false [] []) (ob := .map #[] 0) hk p1 (by simp) (fun b e => by unfold ownsB at e; rw [get_set p1, upd_same] at e; exact e.symm)
    (fun c hc => ⟨by simp, #[], 0, hc, rfl, rfl, fun i e he => by simp at he, fun i e x he => by simp at he⟩)
  refine upon_value (s := Instr.makeMap t none) (by obtain ⟨dst, op, ty, pos, af, gu⟩ := o; simp only at ho; subst ho; rfl) (v := .map (some w.heap.size)) (w' := { w with heap := w.heap.push (.map #[] 0) }) ?_
    ⟨_, _, ⟨by rw [put_hp]; exact adv, (hR.adv adv).put hd ?_, by rw [put_hp]; simp⟩, p2⟩
  · simp [Instr.makeMap]
  · refine .mp ⟨_, get_set p1, by simp⟩ fun h e _ => ?_
    have e : hdOf (st.hp.set (st.bs + r) (.map false [] [])) (upd β (st.bs + r) ⟨w.heap.size, 0, 0, 0, 0, false, 0⟩) (st.bs + r) = some h := e
    unfold hdOf at e
    rw [get_set p1, upd_same] at e
    injection e with e; subst e; rfl

theorem sound_mup {o : Oper} {t kt et : TypeId} {m key v : Operand} {kd : IntKind} {ap : List Nat} (hR : Rel w β F N st a) (ho : o.op = .mapUpdate t m key v ∨ o.op = .insert t m key v) (hu : P.underlying t = some (.map kt et)) (hku : P.underlying kt = some (.int kd)) (hd : o.dst = none) {k : St → Prop}
    (h : (I.mup ap kd m key v).vc P k st) (Q : Exit → Act → World → Prop) : o.wp P a w (Then P F N w st β k) Q := by
  have hk := hR.hok
  simp only [I.vc] at h
  split at h
  · next id e =>
    split at h
    · next refs es hgd =>
      obtain ⟨_, p1, p2, p3⟩ := h
      have hid : st.hp[id]? = some (.map false refs es) := by
        cases hq : st.hp[id]? with
        | none => simp [List.getD, hq] at hgd
        | some o => rw [getD_some hq] at hgd; rw [hgd]
      have hx := hR.ev m
      rw [e] at hx
      have hmap : okMp st.hp (.mp id) := by show (st.hp.getD id .dead).isMap = true; rw [hgd]; rfl
      obtain ⟨q1, ents, clock, q2, q3, q4, q5, q6⟩ := hk.ro id _ hid
      have hm : a.eval m = .map (some (β id).b) := by
        cases hv : a.eval m with
        | _ => ?_
        all_goals
          rw [hv] at hx
          cases hx with
          | mp hl h => exact h ((β id).wt 0) (by show hdOf st.hp β id = _; simp [hdOf, hid]) rfl
      obtain ⟨k1, k2⟩ := (hR.ev key).key p2
      have hes : ∀ (i : Nat) (e : MapEntry) (y : V × V), ents.toList[i]? = some e → es[i]? = some y → RV (cx w.heap st.hp β F) e.key y.1 ∧ RV (cx w.heap st.hp β F) e.val y.2 := fun i e y h1 h2 =>
        ⟨(q6 i e y (by simpa using h1) h2).1.up, (q6 i e y (by simpa using h1) h2).2.up⟩
      have hsame : (execOp a.eval o) = (do Instr.mapUpdate t (a.eval m) (a.eval key) (a.eval v); pure Next.skip) := by
        obtain ⟨dst, op, ty, pos, af, gu⟩ := o; simp only at ho
        rcases ho with rfl | rfl <;> rfl
      have hown : ownsB st.hp β id (β id).b := by unfold ownsB; rw [hid]
      have fin : ∀ (ents' : Array MapEntry) (clock' : Nat), (Instr.mapUpdate t (a.eval m) (a.eval key) (a.eval v)).run P w = .ok () { w with heap := w.heap.setIfInBounds (β id).b (.map ents' clock') } →
          (∀ c, (cx w.heap st.hp β F).le c → c.hp[(β id).b]? = some (.map ents' clock') → RO c (β id) (.map false (addRefs refs (V.idsL [st.ev v])) (putE es (st.ev key) (st.ev v)))) → o.wp P a w (Then P F N w st β k) Q := by
        intro ents' clock' hrun hro
        have adv := wr_obj (o' := .map false (addRefs refs (V.idsL [st.ev v])) (putE es (st.ev key) (st.ev v))) hk hid hown q2 (by simp) (fun b e => by unfold ownsB at e; rw [get_set hid] at e; exact e.symm)
          (by unfold hdOf; rw [get_set hid, hid]) hro
        refine upon_skip hsame (w' := { w with heap := w.heap.setIfInBounds (β id).b (.map ents' clock') }) hrun ⟨β, _, ⟨adv, ?_, by simp⟩, p3⟩
        rw [hd]; exact hR.adv adv
      have hval : ∀ {c : Cx}, (cx w.heap st.hp β F).le c → RV (c.only (addRefs refs (V.idsL [st.ev v]))) (a.eval v) (st.ev v) := fun hle =>
        ((hR.ev v).mono hle).onlyOf _ fun i hi => addRefs_right _ _ (by simp [V.idsL, hi])
      have hold : ∀ {c : Cx} {u : Value} {y : V}, (cx w.heap st.hp β F).le c → RV ((cx w.heap st.hp β F).only refs) u y → RV (c.only (addRefs refs (V.idsL [st.ev v]))) u y := fun hle hu =>
        (hu.mono (hle.only refs)).mono (Cx.only_mono fun i hi => addRefs_left _ _ hi)
      rcases findNow_ents (n := (st.ev key).num) ents.toList es 0 (by simpa using q3) hes p1 with ⟨g1, _, g3⟩ | ⟨j, e0, y0, g1, g2, g3, g4, _, g6⟩
      · refine fin (ents.push { key := .int kd (st.ev key).num, val := a.eval v, born := clock }) (clock + 1) ?_ fun c hle hc => ⟨by simp, _, _, hc, ?_, ?_, fun i e he => ?_, fun i e x he hx => ?_⟩
        · rw [hm, k1]
          simp only [Instr.mapUpdate, Sem.run_bind, run_underlying' hu, Result.andThen_ok, run_getMap q2, run_checkKey_int hku, run_findKey_int (c := cx w.heap st.hp β F) hku g1, MapKept.run_setObj_map _ q2]
        · rw [g3 _ _ rfl]; simp [q3]
        · simp [q4]
        · rw [Array.getElem?_push] at he
          split at he
          · next hi => injection he with he; subst he; rw [hi, q4]
          · exact q5 i e he
        · rw [g3 _ _ rfl, List.getElem?_append] at hx
          rw [Array.getElem?_push] at he
          split at he
          · next hi =>
            injection he with he; subst he
            rw [if_neg (by omega)] at hx
            have : i - es.length = 0 := by omega
            rw [this] at hx
            simp only [List.getElem?_cons_zero, Option.some.injEq] at hx
            subst hx
            exact ⟨by rw [k2]; exact .a, hval hle⟩
          · next hi =>
            have hlt : i < es.length := by have := (Array.getElem?_eq_some_iff.1 he).1; omega
            rw [if_pos hlt] at hx
            exact ⟨(q6 i e x he hx).1.mono (hle.only []), hold hle (q6 i e x he hx).2⟩
      · have hj : ents[j]? = some e0 := by simpa using g2
        refine fin (ents.modify j fun e => { e with key := .int kd (st.ev key).num, val := a.eval v }) clock ?_ fun c hle hc => ⟨by simp, _, _, hc, ?_, ?_, fun i e he => ?_, fun i e x he hx => ?_⟩
        · rw [hm, k1]
          have hkey : (((ents[0 + j]?).map (·.key)).getD (.int kd (st.ev key).num)) = .int kd (st.ev key).num := by rw [Nat.zero_add, hj]; simp [g4]
          simp only [Instr.mapUpdate, Sem.run_bind, run_underlying' hu, Result.andThen_ok, run_getMap q2, run_checkKey_int hku, run_findKey_int (c := cx w.heap st.hp β F) hku g1, hkey]
          rw [MapKept.run_keyThatStays (d := .int kd) (by rfl)]
          simp only [Result.andThen_ok, MapKept.run_setObj_map _ q2, Nat.zero_add]
        · rw [g6 _ _ rfl]; simp [q3]
        · simp [q4]
        · rw [Array.getElem?_modify] at he
          split at he
          · next hi =>
            subst hi
            rw [hj] at he
            simp only [Option.map_some, Option.some.injEq] at he
            subst he
            exact q5 j e0 hj
          · exact q5 i e he
        · rw [g6 _ _ rfl] at hx
          rw [Array.getElem?_modify] at he
          split at he
          · next hi =>
            subst hi
            rw [hj] at he
            simp only [Option.map_some, Option.some.injEq] at he
            subst he
            rw [get_set g3] at hx
            injection hx with hx; subst hx
            refine ⟨?_, hval hle⟩
            have := (q6 j e0 y0 hj g3).1.mono (hle.only [])
            rw [g4] at this; exact this
          · next hi =>
            rw [getElem?_set_ne' (fun e => hi e.symm)] at hx
            exact ⟨(q6 i e x he hx).1.mono (hle.only []), hold hle (q6 i e x he hx).2⟩
    · exact h.elim
  · exact h.elim

theorem sound_rng {o : Oper} {t : TypeId} {x : Operand} {r : Nat} (hR : Rel w β F N st a) (ho : o.op = .range t x) (hu : P.underlying t = some .string) (hd : ∀ t, o.dst = some t → t < N) {k : St → Prop} (h : (I.rng o.dst r x).vc P k st) (Q : Exit → Act → World → Prop) :
    o.wp P a w (Then P F N w st β k) Q := by
  have hk := hR.hok
  obtain ⟨p1, p2, p3⟩ := h
  have adv := new_obj (o := .sit (st.ev x).txt 0) (ob := .stringIter (st.ev x).txt 0) hk p1 (by simp) (fun b e => by unfold ownsB at e; rw [get_set p1, upd_same] at e; exact e.symm)
    (fun c hc => ⟨rfl, rfl, rfl, rfl, hc⟩)
  refine upon_value (s := Instr.range t (a.eval x)) (by obtain ⟨dst, op, ty, pos, af, gu⟩ := o; simp only at ho; subst ho; rfl) (v := .pointer (some ⟨w.heap.size, 0, none⟩)) (w' := { w with heap := w.heap.push (.stringIter (st.ev x).txt 0) }) ?_
    ⟨_, _, ⟨by rw [put_hp]; exact adv, (hR.adv adv).put hd ?_, by rw [put_hp]; simp⟩, p3⟩
  · rw [(hR.ev x).of_str p2]
    simp [Instr.range, run_underlying' hu]
  · refine .ptr ⟨_, get_set p1, by simp⟩ fun h e => ?_
    have e : hdOf (st.hp.set (st.bs + r) (.sit (st.ev x).txt 0)) (upd β (st.bs + r) ⟨w.heap.size, 0, 0, 0, 0, false, 0⟩) (st.bs + r) = some h := e
    unfold hdOf at e
    rw [get_set p1, upd_same] at e
    injection e with e; subst e
    exact ⟨Nat.zero_le _, fun _ => ⟨Nat.zero_le _, rfl, rfl⟩⟩

theorem run_getObj' {b : Nat} {s : ByteArray} {pos : Nat} (hb : w.heap[b]? = some (.stringIter s pos)) : (getObj b).run P w = .ok (.stringIter s pos) w := by
  simp [getObj, Sem.run, hb]
theorem run_setObj' {b : Nat} {s : ByteArray} {pos : Nat} (o : Obj) (hb : w.heap[b]? = some (.stringIter s pos)) : (setObj b o).run P w = .ok () { w with heap := w.heap.setIfInBounds b o } := by
  simp [setObj, Sem.run, hb]

theorem sound_nxt {o : Oper} {x : Operand} (hR : Rel w β F N st a) (ho : o.op = .next x true) (hd : ∀ t, o.dst = some t → t < N) {k : St → Prop} (h : (I.nxt o.dst x).vc P k st) (Q : Exit → Act → World → Prop) :
    o.wp P a w (Then P F N w st β k) Q := by
  have hk := hR.hok
  simp only [I.vc] at h
  split at h
  · next id e =>
    split at h
    · next s pos hgd =>
      have hid : st.hp[id]? = some (.sit s pos) := by
        cases hq : st.hp[id]? with
        | none => simp [List.getD, hq] at hgd
        | some o => rw [getD_some hq] at hgd; rw [hgd]
      obtain ⟨q1, q2, q3, q4, q5⟩ := hk.ro id _ hid
      have q5 : w.heap[(β id).b]? = some (.stringIter s pos) := q5
      have hx := hR.ev x
      rw [e] at hx
      have hm : a.eval x = .pointer (some ⟨(β id).b, 0, none⟩) := by
        cases hv : a.eval x with
        | _ => ?_
        all_goals
          rw [hv] at hx
          cases hx with
          | ptr hl h =>
            obtain ⟨_, g0⟩ := h ((β id).wt 0) (by show hdOf st.hp β id = _; simp [hdOf, hid])
            obtain ⟨_, _, g⟩ := g0 rfl
            rw [g]
            simp only [Hd.wt, q2, q1, Nat.zero_mul, Nat.add_zero, Nat.sub_self]
      have hs : (execOp a.eval o) = (do pure (Next.value (← Instr.next (a.eval x) true o.type))) := by
        obtain ⟨dst, op, ty, pos, af, gu⟩ := o; simp only at ho; subst ho; rfl
      split at h
      · next hlt =>
        have hown : ownsB st.hp β id (β id).b := by unfold ownsB; rw [hid]
        have adv := wr_obj (o' := .sit s (pos + (Utf8.decode s pos).2)) (ob' := .stringIter s (pos + (Utf8.decode s pos).2)) hk hid hown q5 (by simp) (fun b e => by unfold ownsB at e; rw [get_set hid] at e; exact e.symm)
          (by unfold hdOf; rw [get_set hid, hid]) (fun c _ hc => ⟨q1, q2, q3, q4, hc⟩)
        refine upon_value hs (v := .tuple #[.bool true, goInt pos, .int .i32 (Utf8.decode s pos).1]) (w' := { w with heap := w.heap.setIfInBounds (β id).b (.stringIter s (pos + (Utf8.decode s pos).2)) }) ?_
          ⟨β, _, ⟨by rw [put_hp]; exact adv, (hR.adv adv).put hd ?_, by rw [put_hp]; simp⟩, h⟩
        · rw [hm]
          simp only [Instr.next, Sem.run_bind, run_getObj' q5, Result.andThen_ok, hlt, if_true, run_setObj' _ q5, Sem.run_pure]
        · refine .tup rfl fun i v y h1 h2 => ?_
          match i with
          | 0 => simp at h1 h2; subst h1; subst h2; exact .a
          | 1 => simp at h1 h2; subst h1; subst h2; exact .a
          | 2 => simp at h1 h2; subst h1; subst h2; exact .a
          | i + 3 => simp at h1
      · next hge =>
        refine upon_value hs (v := .tuple #[.bool false]) (w' := w) ?_ ⟨β, _, ⟨by rw [put_hp]; exact ⟨hR.hok, .refl _, .refl _ _⟩, hR.put hd ?_, by rw [put_hp]; exact Nat.le_refl _⟩, h⟩
        · rw [hm]
          simp only [Instr.next, Sem.run_bind, run_getObj' q5, Result.andThen_ok, hge, if_false, Sem.run_pure]
        · refine .tup rfl fun i v y h1 h2 => ?_
          match i with
          | 0 => simp at h1 h2; subst h1; subst h2; exact .a
          | i + 1 => simp at h1
    · exact h.elim
  · exact h.elim

end
end Go.Abs
