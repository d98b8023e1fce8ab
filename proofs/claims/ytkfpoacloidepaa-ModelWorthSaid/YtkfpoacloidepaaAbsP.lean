import Derived.Test.YtkfpoacloidepaaAbsO
set_option linter.all false
/- append, calls: the machine does so. -/
namespace Go.Abs
set_option linter.unusedVariables false

theorem upd_self (β : Nat → Hd) (id : Nat) : upd β id (β id) = β := by
  funext k; unfold upd; split
  · next h => rw [h]
  · rfl

theorem le_of_cast (n : Nat) (h : (n : Int) ≤ 140737488355328) : n ≤ 140737488355328 := by omega

section
variable {P : Program} {w : World} {β : Nat → Hd} {F : Nat → Prop} {N : Nat} {st : St} {a : Act}

theorem app_exec {o : Oper} {x y : Operand} {t t2 : TypeId} {ats : Array TypeId} {args : Array Operand} (ho : o.op = .call { callee := .builtin .append, args := args, argTypes := ats }) :
    execOp a.eval o = (do pure (Next.value (← Builtin.append_ ats o.type (args.map a.eval)))) := by
  obtain ⟨dst, op, ty, pos, af, gu⟩ := o
  simp only at ho
  subst ho
  rfl

theorem append_args {P : Program} {w : World} {ats : Array TypeId} {ty t t2 e e2 : TypeId} {vs : Array Value} {s x : Value} (h1 : ats[0]? = some t) (h2 : ats[1]? = some t2) (h3 : vs[0]? = some s) (h4 : vs[1]? = some x) :
    Builtin.append_ ats ty vs = Builtin.append_ #[t, t2] ty #[s, x] := by
  unfold Builtin.append_
  simp only [h1, h2, h3, h4]
  rfl

theorem sound_app {o : Oper} {r : Nat} {ap : List Nat} {args : Array Operand} {ats : Array TypeId} {x y : Operand} {t t2 e e2 : TypeId} {i : TypeInfo} {z : Value} (hR : Rel w β F N st a)
    (ho : o.op = .call { callee := .builtin .append, args := args, argTypes := ats }) (h0 : ats[0]? = some t) (h1 : ats[1]? = some t2) (ha0 : args[0]? = some x) (ha1 : args[1]? = some y)
    (ht : P.underlying t = some (.slice e)) (ht2 : P.underlying t2 = some (.slice e2)) (hi : P.info? e = some i) (hz : i.zero = some z) (hzs : z.cells.size = i.size) (hsz : 0 < i.size) (hb : 0 < i.bytes)
    (hd : ∀ t, o.dst = some t → t < N) {k : St → Prop} (h : (I.app ap o.dst r i.size i.bytes x y).vc P k st) (Q : Exit → Act → World → Prop) :
    o.wp P a w (Then P F N w st β k) Q := by
  have hk := hR.hok
  have hex := app_exec (a := a) (x := x) (y := y) (t := t) (t2 := t2) ho
  have hargs := append_args (P := P) (w := w) (ty := o.type) (e := e) (e2 := e2) h0 h1 (vs := args.map a.eval) (s := a.eval x) (x := a.eval y) (by simp [ha0]) (by simp [ha1])
  rw [hargs] at hex
  simp only [I.vc] at h
  split at h
  · next id es' off len tot ex =>
    split at h
    · next refs rows hgd =>
      obtain ⟨_, rfl, rfl, p2, p3, p4, p5, p6⟩ := h
      have hid : st.hp[id]? = some (.mem false refs rows) := by
        cases hq : st.hp[id]? with
        | none => simp [List.getD, hq] at hgd
        | some o => rw [getD_some hq] at hgd; rw [hgd]
      obtain ⟨yb, m, c, news, ey, hm, hmc, y1, y2, y3, y4, y5, y6⟩ := run_firstCells (P := P) hk (hR.ev y) p3 p4
      have hsub : ∀ q ∈ refs, q ∈ addRefs refs ((st.ev y).rowIds st.hp) := fun q hq => addRefs_left _ _ hq
      have hyr : ∀ (i' : Nat) (row : List V) (j : Nat) (y' : V), ((st.ev y).rowsOf st.hp)[i']? = some row → row[j]? = some y' → ∃ u, news[i' * i.size + j]? = some u ∧ RV ((cx w.heap st.hp β F).only (addRefs refs ((st.ev y).rowIds st.hp))) u y' :=
        fun i' row j y' h1 h2 => by
          obtain ⟨u, e1, e2⟩ := y6 i' row j y' h1 h2
          exact ⟨u, e1, e2.mono (Cx.only_mono fun q hq => addRefs_right _ _ hq)⟩
      have hx := hR.ev x
      rw [ex] at hx
      have hxo : okSl st.hp (.own id i.size off len rows.length) := by
        show _ ∧ _
        rw [hgd]; exact ⟨rfl, rfl⟩
      obtain ⟨xb, xm, xc, olds, ex', hxm, hxmc, x1, x2, x3, x4, x5, x6⟩ := run_firstCells (P := P) hk hx hxo (es := i.size) rfl
      obtain rfl : xm = len := by simp [V.slLen] at hxm; omega
      have hx' := hx
      rw [ex'] at hx'
      cases hx' with
      | own hl hh =>
      obtain ⟨g1, g2⟩ := hh ((β id).wt rows.length) (by show hdOf st.hp β id = _; simp [hdOf, hid])
      obtain ⟨g3, g4, g5⟩ := g2 rfl
      have g3' : (β id).lo ≤ off := g3
      have g4' : (β id).es = i.size := g4
      have hml : m = ((st.ev y).rowsOf st.hp).length := y1.symm
      rcases Nat.eq_zero_or_pos m with hm0 | hmp
      · -- nothing is laid on
        subst hm0
        have hr0 : (st.ev y).rowsOf st.hp = [] := List.length_eq_zero_iff.1 y1
        rw [hr0] at p6
        simp only [List.append_nil, List.length_nil, Nat.add_zero] at p6
        have adv := app_same (refs' := addRefs refs ((st.ev y).rowIds st.hp)) hk hid hsub
        refine upon_value hex (v := a.eval x) (w' := w) ?_ ⟨β, _, ⟨by rw [put_hp]; exact adv, (hR.adv adv).put hd (hx.mono adv.le), by rw [put_hp]; simp⟩, p6⟩
        rw [ex', ey]
        have hns : news = #[] := Array.eq_empty_of_size_eq_zero (by simpa using y4)
        subst hns
        have := run_append_room (ty := o.type) (w' := w) (base := xb) ht ht2 hi (by rw [← ey]; exact y3) (show xm + 0 ≤ xc from hxmc) (by cases xb <;> simp [storeCells])
        exact this
      · by_cases hroom : xm + m ≤ xc
        · -- there is room
          rcases g5 with ⟨g6, g7, g8⟩ | ⟨g6, ad, g7, g8, g9⟩
          · injection g7 with a1 a2 a3; omega
          · injection g7 with a1 a2 a3
            have a3' : xc = (β id).cap - (off - (β id).lo) := a3
            have g9' : ad = ⟨(β id).b, (β id).o + (off - (β id).lo) * (β id).es, none⟩ := g9 (by show off - (β id).lo < (β id).cap; omega)
            obtain ⟨w', r1, adv⟩ := app_room (P := P) (refs' := addRefs refs ((st.ev y).rowIds st.hp)) (vs := news.toList) hk hid hsub g6 g4' y1 hmp y2 (by omega) (by simpa using y4)
              (fun u hu => by obtain ⟨q, hq⟩ := List.getElem?_of_mem hu; exact y5 q u (by simpa using hq)) (fun i' row j y' h1 h2 => by
                obtain ⟨u, e1, e2⟩ := hyr i' row j y' h1 h2
                exact ⟨u, by simpa using e1, e2⟩)
            have hst : (storeCells (ad.add (xm * i.size)) news.toList).run P w = .ok () w' := by
              rw [← r1, g9', addr_add, g4']
              congr 3
              rw [Nat.add_assoc, ← Nat.add_mul]
              congr 2
              omega
            refine upon_value hex (v := .slice xb (xm + m) xc) (w' := w') ?_ ⟨β, _, ⟨by rw [put_hp]; exact adv, (hR.adv adv).put hd ?_, by rw [put_hp]; simp⟩, p6⟩
            · rw [ex', ey]
              exact run_append_room (ty := o.type) ht ht2 hi (by rw [← ey]; exact y3) hroom (by rw [a1]; exact hst)
            · have hupd : upd β id (β id) = β := upd_self β id
              refine .own ⟨_, get_set hid, fun e => by cases e⟩ fun h0 e0 => ?_
              have e1 : hdOf (st.hp.set id (.mem false (addRefs refs ((st.ev y).rowIds st.hp)) (rows ++ (st.ev y).rowsOf st.hp))) β id = some ((β id).wt (rows ++ (st.ev y).rowsOf st.hp).length) := by
                have := hdOf_new (β' := β) (β := β) (h' := β id) (refs' := addRefs refs ((st.ev y).rowIds st.hp)) (rows' := rows ++ (st.ev y).rowsOf st.hp) hid
                rw [hupd] at this; exact this
              have e2 : some h0 = some ((β id).wt (rows ++ (st.ev y).rowsOf st.hp).length) := e0.symm.trans e1
              injection e2 with e2
              subst e2
              refine ⟨by show _ ≤ (rows ++ _).length; simp, fun _ => ⟨g3', g4', .inr ⟨g6, ad, ?_, ?_, g9⟩⟩⟩
              · rw [a1, a3', hml]; rfl
              · show off + (xm + _) ≤ (rows ++ _).length
                rw [List.length_append]; omega
        · -- a new row
          have hgrow : xc < xm + m := by omega
          have hR1 : Rel { w with drawn := w.drawn + 1 } β F N st a := ⟨hR.hok, hR.sl, hR.df, hR.sz⟩
          obtain ⟨yb', m', c', news', ey', hm', hmc', y1', y2', y3', y4', y5', y6'⟩ := run_firstCells (P := P) (w := { w with drawn := w.drawn + 1 }) hk (hR1.ev y) p3 p4
          rw [ey] at ey'
          injection ey' with b1 b2 b3
          subst b1 b2 b3
          obtain ⟨xb', xm', xc', olds', ex'', hxm', hxmc', x1', x2', x3', x4', x5', x6'⟩ := run_firstCells (P := P) (w := { w with drawn := w.drawn + 1 }) hk hx hxo (es := i.size) rfl
          rw [ex'] at ex''
          injection ex'' with b1 b2 b3
          subst b1 b2 b3
          have hbytes : (xm + m) * i.bytes ≤ 140737488355328 := by
            have : (((xm + m) * i.bytes : Nat) : Int) ≤ 140737488355328 := by
              rw [Int.natCast_mul, Int.natCast_add, hm]; exact p5
            exact le_of_cast _ this
          obtain ⟨newCap, hcap, hrun⟩ := run_append_grow (P := P) (ty := o.type) (w := w) ht ht2 hi hz hb (by rw [← ex']; exact x3') (by rw [← ey]; exact y3') hgrow hbytes
          have hrows : ∀ (i' : Nat) (row : List V), rows[i']? = some row → row.length = i.size := by
            rcases hk.ro id _ hid with hro | ⟨q1, q2, q3, q4, _⟩
            · intro i' row hi'; rw [hro.2.1] at hi'; simp at hi'
            · intro i' row hi'; rw [← g4']; exact q4 i' row hi'
          have hrO : (V.own id i.size off xm rows.length).rowsOf st.hp = rows.drop off := by
            show ((st.hp.getD id .dead).rows.drop off).take xm = _
            rw [hgd]
            show (rows.drop off).take xm = _
            rw [List.take_of_length_le (by simp; omega)]
          have adv := app_grow (off := off) (n := m) (cap := newCap) (k := w.drawn + 1) (refs' := addRefs refs ((st.ev y).rowIds st.hp)) (olds := olds') (news := news') (rest := Builtin.zeroCells z.cells (newCap - (xm + m))) (E := e)
            hk hid hsub (by omega) hrows y1 hmp y2 (by omega) (by rw [x4']; congr 1; omega) y4' (by rw [zeroCells_size, hzs]; congr 2; omega) x5' y5'
            (fun i' row j y' h1 h2 => by
              obtain ⟨u, e1, e2⟩ := x6' i' row j y' (by rw [hrO]; exact h1) h2
              refine ⟨u, e1, ?_⟩
              have : (V.own id i.size off xm rows.length).rowIds st.hp = refs := by show (st.hp.getD id .dead).refs = _; rw [hgd]; rfl
              rw [this] at e2
              exact e2)
            (fun i' row j y' h1 h2 => by
              obtain ⟨u, e1, e2⟩ := y6' i' row j y' h1 h2
              exact ⟨u, e1, e2.mono (Cx.only_mono fun q hq => addRefs_right _ _ hq)⟩)
          refine upon_value hex (by rw [ex', ey]; exact hrun) ⟨_, _, ⟨by rw [put_hp]; exact adv, (hR.adv adv).put hd ?_, by rw [put_hp]; simp⟩, p6⟩
          refine .own ⟨_, get_set hid, fun e => by cases e⟩ fun h0 e0 => ?_
          have e1 := hdOf_new (β' := β) (β := β) (h' := ⟨w.heap.size, 0, newCap, i.size, off, false, 0⟩) (refs' := addRefs refs ((st.ev y).rowIds st.hp)) (rows' := rows ++ (st.ev y).rowsOf st.hp) hid
          have e2 := e0.symm.trans e1
          injection e2 with e2
          subst e2
          refine ⟨by show _ ≤ (rows ++ _).length; simp, fun _ => ⟨Nat.le_refl _, rfl, .inr ⟨rfl, ⟨w.heap.size, 0, none⟩, ?_, ?_, fun _ => ?_⟩⟩⟩
          · rw [hml]; simp [Hd.wt]
          · show off + (xm + _) ≤ (rows ++ _).length
            rw [List.length_append]; omega
          · simp [Hd.wt]
    · exact h.elim
  · next ex =>
    obtain ⟨p1, p3, p4, p5, p6⟩ := h
    have hx := hR.ev x
    rw [ex] at hx
    have hxv : a.eval x = .slice none 0 0 := hx.of_a
    obtain ⟨yb, m, c, news, ey, hm, hmc, y1, y2, y3, y4, y5, y6⟩ := run_firstCells (P := P) hk (hR.ev y) p3 p4
    rcases Nat.eq_zero_or_pos m with hm0 | hmp
    · subst hm0
      have hr0 : (st.ev y).rowsOf st.hp = [] := List.length_eq_zero_iff.1 y1
      rw [hr0] at p6
      simp only [List.length_nil] at p6
      have adv := new_nil (es := i.size) (refs := (st.ev y).rowIds st.hp) hk p1
      refine upon_value hex (v := .slice none 0 0) (w' := w) ?_ ⟨_, _, ⟨by rw [put_hp]; exact adv, (hR.adv adv).put hd (nil_own p1), by rw [put_hp]; simp⟩, p6⟩
      rw [hxv, ey]
      exact run_append_room (ty := o.type) (base := none) ht ht2 hi (by rw [← ey]; exact y3) (Nat.le_refl _) rfl
    · have hR1 : Rel { w with drawn := w.drawn + 1 } β F N st a := ⟨hR.hok, hR.sl, hR.df, hR.sz⟩
      obtain ⟨yb', m', c', news', ey', hm', hmc', y1', y2', y3', y4', y5', y6'⟩ := run_firstCells (P := P) (w := { w with drawn := w.drawn + 1 }) hk (hR1.ev y) p3 p4
      rw [ey] at ey'
      injection ey' with b1 b2 b3
      subst b1 b2 b3
      have hbytes : (0 + m) * i.bytes ≤ 140737488355328 := by
        have : ((m * i.bytes : Nat) : Int) ≤ 140737488355328 := by
          rw [Int.natCast_mul, hm]; exact p5
        rw [Nat.zero_add]; exact le_of_cast _ this
      obtain ⟨newCap, hcap, hrun⟩ := run_append_grow (P := P) (ty := o.type) (w := w) (base := none) (sLen := 0) (sCap := 0) (olds := #[]) ht ht2 hi hz hb (by simp [Builtin.firstCells]) (by rw [← ey]; exact y3') (by omega) hbytes
      have adv := new_cap (n := w.drawn + 1) (es := i.size) (cap := newCap) (refs := (st.ev y).rowIds st.hp) (rows := (st.ev y).rowsOf st.hp) (cs := #[] ++ news' ++ Builtin.zeroCells z.cells (newCap - (0 + m))) (E := e) hk p1 (by omega)
        (by simp only [Array.size_append, y4', zeroCells_size, hzs, List.size_toArray, List.length_nil, Nat.zero_add, ← Nat.add_mul]; exact Nat.mul_le_mul_right _ (by omega))
        (fun i' row h => y2 row (List.mem_of_getElem? h)) (fun i' row j y' h1 h2 => by
          obtain ⟨u, e1, e2⟩ := y6' i' row j y' h1 h2
          have hl := (Array.getElem?_eq_some_iff.1 e1).1
          refine ⟨u, ?_, y5' _ u e1, e2⟩
          rw [Array.empty_append, Array.getElem?_append, if_pos hl, e1])
      refine upon_value hex (by rw [hxv, ey]; exact hrun) ⟨_, _, ⟨by rw [put_hp]; exact adv, (hR.adv adv).put hd ?_, by rw [put_hp]; simp⟩, p6⟩
      have := cap_own (es := i.size) (cap := newCap) (refs := (st.ev y).rowIds st.hp) (rows := (st.ev y).rowsOf st.hp) (b := w.heap.size) p1 (hp := w.heap.push (.cells (#[] ++ news' ++ Builtin.zeroCells z.cells (newCap - (0 + m))) e)) (F := F) (β := β) rfl
      rw [y1] at this ⊢
      simpa only [Nat.zero_add] using this
  · exact h.elim

end
end Go.Abs
