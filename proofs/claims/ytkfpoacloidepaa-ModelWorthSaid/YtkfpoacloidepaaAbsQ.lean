import Derived.Test.YtkfpoacloidepaaAbsPa
set_option linter.all false
/- All operations; regions; code. -/
namespace Go.Abs
set_option linter.unusedVariables false

def I.ghost : I → Bool
  | .frz _ | .nilv .. | .nilo .. | .keep _ => true
  | _ => false

section
variable {P : Program} {w : World} {β : Nat → Hd} {F : Nat → Prop} {N : Nat} {st : St} {a : Act}

theorem gt_keep (l : Sl) (u : Nat) : ∀ ts : List Nat, gt (keepS l ts) u = gt l u ∨ gt (keepS l ts) u = .any := by
  intro ts
  induction ts with
  | nil => exact .inr rfl
  | cons t ts ih =>
    simp only [keepS, gt_up]
    split
    · next h => subst h; exact .inl rfl
    · exact ih

/-- A slot is told otherwise. -/
theorem Rel.slot {t : Nat} {x : V} (hR : Rel w β F N st a) (h : RV (cx w.heap st.hp β F) (a.tmps.getD t undef) x) : Rel w β F N { st with sl := up st.sl t x } a :=
  ⟨hR.hok, fun u => by
    simp only [gt_up]
    split
    · next e => subst e; exact h
    · exact hR.sl u, hR.df, hR.sz⟩

theorem sound_ghost {i : I} (hg : i.ghost = true) (hR : Rel w β F N st a) {k : St → Prop} (h : i.vc P k st) :
    ∃ β' st', (Adv F w st.hp β w st'.hp β' ∧ Rel w β' F N st' a ∧ st.hp.length ≤ st'.hp.length) ∧ k st' := by
  have hk := hR.hok
  have refl : Adv F w st.hp β w st.hp β := ⟨hk, .refl _, .refl _ _⟩
  cases i with
  | frz t =>
    simp only [I.vc] at h
    split at h
    · exact ⟨β, st, ⟨refl, hR, Nat.le_refl _⟩, h⟩
    · obtain ⟨h1, h2⟩ := h
      have adv := adv_fzL (F := F) (w := w) (β := β) (gt st.sl t).ids hk
      have hz := RV.fz (l := (gt st.sl t).ids) hk (hR.sl t) rfl h1 fun i hi => hi
      refine ⟨β, _, ⟨adv, (hR.adv adv).slot hz.up, ?_⟩, h2⟩
      show st.hp.length ≤ (st.hp.fz _).length
      have key : ∀ (l : List Nat) (H : Heap), (H.fz l).length = H.length := by
        intro l; induction l with
        | nil => intro H; rfl
        | cons i l ih => intro H; simp [Heap.fz, ih]
      rw [key]; exact Nat.le_refl _
  | nilv t es =>
    simp only [I.vc] at h
    refine ⟨β, { st with sl := up st.sl t (if (gt st.sl t).nilSl then .view es [] else gt st.sl t) }, ⟨refl, hR.slot ?_, Nat.le_refl _⟩, h⟩
    split
    · next hn =>
      have hx := hR.sl t
      generalize gt st.sl t = x at hx hn
      unfold V.nilSl at hn
      split at hn
      · rw [hx.of_a]; exact .nilv
      · cases hn
    · exact hR.sl t
  | nilo t es r =>
    simp only [I.vc] at h
    split at h
    · next e =>
      obtain ⟨h1, h2⟩ := h
      have adv := new_nil (es := es) (refs := []) (F := F) hk h1
      refine ⟨_, _, ⟨adv, (hR.adv adv).slot ?_, by simp⟩, h2⟩
      have hx := hR.sl t
      rw [e] at hx
      rw [hx.of_a]
      exact nil_own h1
    · exact ⟨β, st, ⟨refl, hR, Nat.le_refl _⟩, h⟩
  | keep ts =>
    simp only [I.vc] at h
    refine ⟨β, { st with sl := keepS st.sl ts }, ⟨refl, ⟨hR.hok, fun u => ?_, hR.df, hR.sz⟩, Nat.le_refl _⟩, h⟩
    rcases gt_keep st.sl u ts with e | e
    · show RV _ _ (gt (keepS st.sl ts) u)
      rw [e]; exact hR.sl u
    · show RV _ _ (gt (keepS st.sl ts) u)
      rw [e]; exact .any
  | _ => cases hg

theorem run_callFunc {f : FuncId} {args : Array Value} (h : okFunc P f = true) : (callFunc f args).run P w = .ok (.enter f args) w := by
  unfold okFunc at h
  cases hf : P.funcs[f]? with
  | none => rw [hf] at h; cases h
  | some fn =>
    rw [hf] at h
    simp only [Bool.and_eq_true, bne_iff_ne, ne_eq] at h
    obtain ⟨h1, h2⟩ := h
    have h3 : fn.body.isNone = false := by cases hb : fn.body <;> simp_all
    simp only [callFunc, Sem.run_bind, run_program, Result.andThen_ok, hf]
    rw [if_neg (by simpa using h1)]
    simp only [h3, Bool.false_eq_true, if_false, Sem.run_pure]

theorem upon_enter' {o : Oper} {f : FuncId} {args : Array Value} {next : Act → World → Prop} {Q : Exit → Act → World → Prop} {K : Ending → World → Prop}
    (hs : (execOp a.eval o).run P w = .ok (.enter f args) w) (h : Calls P f args w K) (hn : ∀ e w', K e w' → ∃ v, e = .returned v ∧ next (a.put o.dst v) w') : o.wp P a w next Q := by
  unfold Oper.wp
  rw [hs]
  refine h.mono fun e w' hK => ?_
  obtain ⟨v, rfl, h2⟩ := hn e w' hK
  exact h2

theorem call_args {c : Call} {fs cs : Array Value} {xs ys : List V} (hR : Rel w β F N st a) (h1 : RVs (cx w.heap st.hp β F) fs xs) (h2 : RVs (cx w.heap st.hp β F) cs ys) :
    RVs (cx w.heap st.hp β F) (fs ++ c.args.map a.eval ++ cs) (xs ++ c.args.toList.map st.ev ++ ys) := by
  refine ⟨by simp [h1.1, h2.1], fun i v x hv hx => ?_⟩
  rw [Array.append_assoc, Array.getElem?_append] at hv
  rw [List.append_assoc, List.getElem?_append] at hx
  rw [← h1.1] at hx
  split at hv
  · next hlt => rw [if_pos hlt] at hx; exact h1.2 i v x hv hx
  · next hge =>
    rw [if_neg hge] at hx
    rw [Array.getElem?_append] at hv
    rw [List.getElem?_append] at hx
    simp only [Array.size_map, List.length_map, Array.length_toList] at hv hx
    split at hv
    · next hlt =>
      rw [if_pos hlt] at hx
      simp only [Array.getElem?_map, List.getElem?_map, Array.getElem?_toList, Option.map_eq_some_iff] at hv hx
      obtain ⟨p, hp, rfl⟩ := hv
      obtain ⟨q, hq, rfl⟩ := hx
      rw [hp] at hq; injection hq with hq; subst hq
      exact hR.ev p
    · next hge2 =>
      rw [if_neg hge2] at hx
      exact h2.2 _ v x hv hx

theorem sound_call {o : Oper} {f : FuncId} {c : Call} {fv : Operand} {fs cs : Array Value} {xs ys : List V} (hR : Rel w β F N st a) (ho : o.op = .call c) (hcal : c.callee = .value fv) (hf : a.eval fv = .func (.func f) fs cs)
    (hok : okFunc P f = true) (h1 : RVs (cx w.heap st.hp β F) fs xs) (h2 : RVs (cx w.heap st.hp β F) cs ys) (hd : ∀ t, o.dst = some t → t < N) {k : St → Prop}
    (hids : V.idsL (xs ++ c.args.toList.map st.ev ++ ys) = []) (h : DP P f (xs ++ c.args.toList.map st.ev ++ ys) fun r => k (st.put o.dst r)) (Q : Exit → Act → World → Prop) :
    o.wp P a w (Then P F N w st β k) Q := by
  have hs : (execOp a.eval o).run P w = .ok (.enter f (fs ++ c.args.map a.eval ++ cs)) w := by
    obtain ⟨dst, op, ty, pos, af, gu⟩ := o
    simp only at ho
    subst ho
    simp only [execOp, resolve, hcal, hf, Deferred.ofValue, Sem.run_bind, Sem.run_pure, Result.andThen_ok, invoke, run_callFunc hok]
  have hargs := call_args (c := c) hR (xs := xs) (ys := ys) h1 h2
  refine upon_enter' hs (sound_DP hR hargs hids h) fun e w' hres => ?_
  obtain ⟨r, x, rfl, adv, hr, hK⟩ := hres
  exact ⟨r, rfl, β, _, ⟨by rw [put_hp]; exact adv, (hR.adv adv).put hd hr, by rw [put_hp]; exact Nat.le_refl _⟩, hK⟩

theorem RVs.nil (c : Cx) : RVs c #[] [] := ⟨rfl, fun i v x h => by simp at h⟩

set_option maxHeartbeats 800000 in
/-- Every operation. -/
theorem I.sound {i : I} {o : Oper} {r : Nat} {ap : List Nat} (hR : Rel w β F N st a) (hc : cmpI P o r ap = some i) (hd : ∀ t, o.dst = some t → t < N) (hst : (∃ t x v, o.op = .store t x v) → o.dst = none) {k : St → Prop} (h : i.vc P k st) (Q : Exit → Act → World → Prop) :
    o.wp P a w (Then P F N w st β k) Q := by
  have light : ∀ {l}, cmpL P o.op = some l → i = .lt o.dst l → o.wp P a w (Then P F N w st β k) Q := fun hl e => by subst e; exact run_isLight hR hl hd h Q
  unfold cmpI at hc
  split at hc
  · next t x v ho =>
    simp only [Option.bind_eq_some_iff, Option.some.injEq] at hc
    obtain ⟨inf, hi, rfl⟩ := hc
    exact sound_store hR ho hi (hst ⟨_, _, _, ho⟩) h Q
  · next t ho =>
    simp only [Option.bind_eq_some_iff] at hc
    obtain ⟨inf, hi, z, hz, hc⟩ := hc
    split at hc
    · next hzz =>
      injection hc with hc; subst hc
      exact sound_alloc hR ho hi hz hzz.1 hzz.2 hd h Q
    · cases hc
  · next t x ho =>
    simp only [Option.bind_eq_some_iff, Option.some.injEq] at hc
    obtain ⟨inf, hi, rfl⟩ := hc
    exact sound_box hR ho hi hd h Q
  · next t len parts ho =>
    unfold cmpBsl at hc
    split at hc
    · next e hu =>
      simp only [Option.bind_eq_some_iff] at hc
      obtain ⟨inf, hi, z, hz, hc⟩ := hc
      split at hc
      · next hzz =>
        injection hc with hc; subst hc
        exact sound_bsl hR ho hu hi hz hzz.1 hzz.2.1 hzz.2.2.1 hzz.2.2.2 hd h Q
      · cases hc
    · cases hc
  · next c ho =>
    split at hc
    · next f hcal =>
      split at hc
      · next hok =>
        injection hc with hc; subst hc
        obtain ⟨h1, h2⟩ := h
        have := sound_call (xs := []) (ys := []) (fv := .func f) (fs := #[]) (cs := #[]) hR ho hcal rfl hok (.nil _) (.nil _) hd (by simpa using h1) (by simpa using h2) Q
        exact this
      · cases hc
    · next fv hne hcal =>
      injection hc with hc; subst hc
      simp only [I.vc] at h
      split at h
      · next f fs cs e =>
        obtain ⟨h0, h1, h2⟩ := h
        have hx := hR.ev fv
        rw [e] at hx
        generalize hv : a.eval fv = v at hx
        cases hx with
        | fn g1 g2 g3 g4 => exact sound_call hR ho hcal hv h0 ⟨g1, g3⟩ ⟨g2, g4⟩ hd h1 h2 Q
      · exact h.elim
    · next b hcal =>
      split at hc
      · next hb =>
        obtain rfl : b = .append := by cases b <;> simp_all [isApp]
        obtain ⟨callee, args, ats⟩ := c
        simp only at hcal hc
        unfold cmpApp at hc
        simp only [Option.bind_eq_some_iff] at hc
        obtain ⟨t, h0, t2, h1, x, ha0, y, ha1, hc⟩ := hc
        split at hc
        · next e e2 hu hu2 =>
          simp only [Option.bind_eq_some_iff] at hc
          obtain ⟨inf, hi, z, hz, hc⟩ := hc
          split at hc
          · next hzz =>
            injection hc with hc; subst hc
            subst hcal
            exact sound_app hR ho h0 h1 ha0 ha1 hu hu2 hi hz hzz.1 hzz.2.1 hzz.2.2 hd h Q
          · cases hc
        · cases hc
      · simp only [Option.map_eq_some_iff] at hc
        obtain ⟨l, hl, rfl⟩ := hc
        exact light hl rfl
    · cases hc
  · next t ho => cases hc; exact sound_mkm hR ho hd h Q
  · next t m kx v ho =>
    unfold cmpMup at hc
    split at hc
    · next kt et hu =>
      split at hc
      · next kd hku =>
        split at hc
        · next hdn => cases hc; exact sound_mup hR (.inl ho) hu hku hdn h Q
        · cases hc
      · cases hc
    · cases hc
  · next t m kx v ho =>
    unfold cmpMup at hc
    split at hc
    · next kt et hu =>
      split at hc
      · next kd hku =>
        split at hc
        · next hdn => cases hc; exact sound_mup hR (.inr ho) hu hku hdn h Q
        · cases hc
      · cases hc
    · cases hc
  · next t x ho =>
    unfold cmpRng at hc
    split at hc
    · next hu => cases hc; exact sound_rng hR ho hu hd h Q
    · cases hc
  · next it str ho =>
    split at hc
    · next hs => cases hc; subst hs; exact sound_nxt hR ho hd h Q
    · cases hc
  · simp only [Option.map_eq_some_iff] at hc
    obtain ⟨l, hl, rfl⟩ := hc
    exact light hl rfl

theorem addAll_mem {i : Nat} : ∀ (is l : List Nat), i ∈ addAll l is ↔ i ∈ l ∨ i ∈ is := by
  intro is
  induction is with
  | nil => intro l; simp [addAll]
  | cons k is ih =>
    intro l
    simp only [addAll, ih]
    split
    · next h =>
      simp only [List.mem_cons]
      constructor
      · rintro (h' | h')
        · exact .inl h'
        · exact .inr (.inr h')
      · rintro (h' | rfl | h')
        · exact .inl h'
        · exact .inl h
        · exact .inr h'
    · simp only [List.mem_append, List.mem_cons, List.not_mem_nil, or_false, or_assoc]

theorem clos_mem {H : Heap} {i : Nat} : ∀ (n : Nat) (l : List Nat), i ∈ l → i ∈ clos H n l := by
  intro n
  induction n with
  | zero => intro l h; exact h
  | succ n ih => intro l h; exact ih _ ((addAll_mem _ _).2 (.inl h))

theorem RVs.get {c : Cx} {vs : Array Value} {xs : List V} (h : RVs c vs xs) {i : Nat} {x : V} (hx : xs[i]? = some x) : ∃ v, vs[i]? = some v ∧ RV c v x := by
  have hlt : i < vs.size := by rw [h.1]; exact lt_of_get hx
  exact ⟨vs[i], Array.getElem?_eq_getElem hlt, h.2 i _ _ (Array.getElem?_eq_getElem hlt) hx⟩

theorem sound_DCm {f : FuncId} {vs : Array Value} {xs : List V} {sel : List Nat} {H : Heap} {Q : V → Heap → Prop} (hk : HOK w.heap H β F) (hv : RVs (cx w.heap H β F) vs xs) (ok : OkSel H sel) (hs : ∀ i ∈ V.idsL xs, i ∈ sel)
    (h : DC P f (V.renL (idx sel) xs) (sub H sel) Q) :
    Calls P f vs w fun e w' => ∃ r x H' β', e = .returned r ∧ Adv F w H β w' (merge H sel H') β' ∧ RV (cx w'.heap (merge H sel H') β' F) r (x.ren (back sel H.length)) ∧ Q x H' := by
  have hargs : RVs (cx w.heap (sub H sel) (βsub β sel) (Fsub H β F sel)) vs (V.renL (idx sel) xs) := by
    refine ⟨by rw [renL_map, List.length_map]; exact hv.1, fun i v x h1 h2 => ?_⟩
    rw [renL_map, List.getElem?_map, Option.map_eq_some_iff] at h2
    obtain ⟨y, hy, rfl⟩ := h2
    have := (hv.2 i v y h1 hy).onlyOf sel fun k hk => hs k (idsL_mem hy hk)
    exact (this.ren (ren_sub ok fun i hi => hi)).up
  refine (h w (βsub β sel) (Fsub H β F sel) vs (sub_ok hk ok) hargs).mono fun e w' hres => ?_
  obtain ⟨r, x, H', β', rfl, adv, hr, hQ⟩ := hres
  have hl : sel.length ≤ H'.length := by
    refine Nat.le_of_not_lt fun hlt => ?_
    have hj : H'.length < sel.length := hlt
    have h1 : liveIn (sub H sel) H'.length := by
      have hm := getD_mem hj
      refine (liveIn_ren (sub_get ok hj)).2 ⟨H.getD (sel.getD H'.length 0) .dead, get_of_getD (ok.lt _ hm), ok.nres _ hm⟩
    obtain ⟨o, ho, _⟩ := adv.le.live _ h1
    have := lt_of_get ho
    omega
  obtain ⟨g1, g2⟩ := merge_adv hk ok hl adv
  exact ⟨r, x, H', _, rfl, g1, hr.ren g2, hQ⟩

theorem sound_callm {o : Oper} {c : Call} {fv : Operand} (hR : Rel w β F N st a) (ho : o.op = .call c) (hcal : c.callee = .value fv) (hd : ∀ t, o.dst = some t → t < N) {k : St → Prop}
    (h : (I.callm o.dst fv c.args.toList).vc P k st) (Q : Exit → Act → World → Prop) : o.wp P a w (Then P F N w st β k) Q := by
  simp only [I.vc] at h
  split at h
  · next f xs ys e =>
    obtain ⟨hok, hsel, hdc⟩ := h
    have hx := hR.ev fv
    rw [e] at hx
    generalize hv : a.eval fv = v at hx
    cases hx with
    | fn g1 g2 g3 g4 =>
      rename_i fs cs
      have hs : (execOp a.eval o).run P w = .ok (.enter f (fs ++ c.args.map a.eval ++ cs)) w := by
        obtain ⟨dst, op, ty, pos, af, gu⟩ := o
        simp only at ho
        subst ho
        simp only [execOp, resolve, hcal, hv, Deferred.ofValue, Sem.run_bind, Sem.run_pure, Result.andThen_ok, invoke, run_callFunc hok]
      have hargs := call_args (c := c) hR (xs := xs) (ys := ys) ⟨g1, g3⟩ ⟨g2, g4⟩
      refine upon_enter' hs (sound_DCm hR.hok hargs hsel (fun i hi => clos_mem _ _ ((addAll_mem _ _).2 (.inr hi))) hdc) fun e w' hres => ?_
      obtain ⟨r, x, H', β', rfl, adv, hr, hK⟩ := hres
      refine ⟨r, rfl, β', _, ⟨by rw [put_hp]; exact adv, (hR.adv adv).put hd hr, ?_⟩, hK⟩
      rw [put_hp]
      show st.hp.length ≤ (merge st.hp _ H').length
      simp only [merge, List.length_append, place_length]
      omega
  · exact h.elim

theorem sound_callb {o : Oper} {c : Call} {fv : Operand} (hR : Rel w β F N st a) (ho : o.op = .call c) (hcal : c.callee = .value fv) (hd : ∀ t, o.dst = some t → t < N) {k : St → Prop}
    (h : (I.callb o.dst fv c.args.toList).vc P k st) (Q : Exit → Act → World → Prop) : o.wp P a w (Then P F N w st β k) Q := by
  simp only [I.vc] at h
  split at h
  · next f xs ys e =>
    obtain ⟨hok, hids, hdp⟩ := h
    have hx := hR.ev fv
    rw [e] at hx
    generalize hv : a.eval fv = v at hx
    cases hx with
    | fn g1 g2 g3 g4 =>
      rename_i fs cs
      have hs : (execOp a.eval o).run P w = .ok (.enter f (fs ++ c.args.map a.eval ++ cs)) w := by
        obtain ⟨dst, op, ty, pos, af, gu⟩ := o
        simp only at ho
        subst ho
        simp only [execOp, resolve, hcal, hv, Deferred.ofValue, Sem.run_bind, Sem.run_pure, Result.andThen_ok, invoke, run_callFunc hok]
      have hargs := call_args (c := c) hR (xs := xs) (ys := ys) ⟨g1, g3⟩ ⟨g2, g4⟩
      refine upon_enter' hs (sound_DPb hR hargs hids hdp) fun e w' hres => ?_
      obtain ⟨r, x, rfl, adv, hr, hK⟩ := hres
      exact ⟨r, rfl, β, _, ⟨by rw [put_hp]; exact adv, (hR.adv adv).put hd hr, by rw [put_hp]; exact Nat.le_refl _⟩, hK⟩
  · exact h.elim

mutual
theorem ren_none {f : Nat → Nat} : ∀ (x : V), x.ids = [] → x.ren f = x
  | .any, _ | .a _, _ | .ref .., _ | .view .., _ | .mview _, _ => by simp [V.ren]
  | .ptr .., h | .own .., h | .mp _, h => by simp [V.ids] at h
  | .agg cs, h => by simp only [V.ren]; rw [renL_none cs (by simpa [V.ids] using h)]
  | .tup cs, h => by simp only [V.ren]; rw [renL_none cs (by simpa [V.ids] using h)]
  | .fn g fs cs, h => by
    have h : V.idsL fs ++ V.idsL cs = [] := by simpa [V.ids] using h
    simp only [V.ren]
    rw [renL_none fs (List.append_eq_nil_iff.1 h).1, renL_none cs (List.append_eq_nil_iff.1 h).2]
  | .ifc t x, h => by simp only [V.ren]; rw [ren_none x (by simpa [V.ids] using h)]
theorem renL_none {f : Nat → Nat} : ∀ (l : List V), V.idsL l = [] → V.renL f l = l
  | [], _ => rfl
  | x :: l, h => by
    have h : x.ids ++ V.idsL l = [] := by simpa [V.idsL] using h
    simp only [V.renL]
    rw [ren_none x (List.append_eq_nil_iff.1 h).1, renL_none l (List.append_eq_nil_iff.1 h).2]
end

theorem sound_callo {o : Oper} {c : Call} {fv : Operand} (hR : Rel w β F N st a) (ho : o.op = .call c) (hcal : c.callee = .value fv) (hd : ∀ t, o.dst = some t → t < N) {k : St → Prop}
    (h : (I.callo o.dst fv c.args.toList).vc P k st) (Q : Exit → Act → World → Prop) : o.wp P a w (Then P F N w st β k) Q := by
  refine sound_callm hR ho hcal hd (k := k) ?_ Q
  simp only [I.vc] at h ⊢
  split at h
  · next f fs cs e =>
    obtain ⟨h1, h2, h3⟩ := h
    have hc : ∀ n, clos st.hp n [] = [] := by
      intro n
      induction n with
      | zero => rfl
      | succ n ih => simpa [clos, addAll] using ih
    rw [h2]
    simp only [addAll]
    rw [hc]
    refine ⟨h1, ⟨by simp, by simp, by simp, by simp⟩, ?_⟩
    rw [renL_none _ h2]
    have hb : back [] st.hp.length = fun j => st.hp.length + j := by funext j; simp [back]
    refine DC.mono (show DC P f _ (sub st.hp []) _ from h3) fun r H' hr => ?_
    simp only [merge, List.length_nil, List.take_zero, List.map_nil, place, List.drop_zero, hb]
    exact hr
  · exact h.elim

theorem I.soundM {i : I} {o : Oper} {r : Nat} {ap : List Nat} (hR : Rel w β F N st a) (hc : cmpI P o r ap = some i ∨ ∃ b, cmpM b o = some i) (hd : ∀ t, o.dst = some t → t < N) (hst : (∃ t x v, o.op = .store t x v) → o.dst = none) {k : St → Prop} (h : i.vc P k st) (Q : Exit → Act → World → Prop) :
    o.wp P a w (Then P F N w st β k) Q := by
  rcases hc with hc | hc
  · exact I.sound hR hc hd hst h Q
  · obtain ⟨b, hc⟩ := hc
    unfold cmpM at hc
    split at hc
    · next c ho =>
      split at hc
      · next fv hcal =>
        cases b with
        | zero => cases hc; exact sound_callm hR ho hcal hd h Q
        | succ b =>
          cases b with
          | zero => cases hc; exact sound_callb hR ho hcal hd h Q
          | succ b => cases hc; exact sound_callo hR ho hcal hd h Q
      · cases hc
    · cases hc

end
end Go.Abs
