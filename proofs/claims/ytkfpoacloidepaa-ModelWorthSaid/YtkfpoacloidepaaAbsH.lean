import Derived.Test.YtkfpoacloidepaaAbsGa
set_option linter.all false
/- Operations that leave memory alone: the machine does so (4). -/
namespace Go.Abs
set_option linter.unusedVariables false

section
variable {P : Program} {w : World} {β : Nat → Hd} {F : Nat → Prop} {N : Nat} {st : St} {a : Act}

def Sound1 (P : Program) (w : World) (β : Nat → Hd) (F : Nat → Prop) (st : St) (a : Act) (o : Oper) (x : V) : Prop :=
  ∃ v, (execOp a.eval o).run P w = .ok (.value v) w ∧ RV (cx w.heap st.hp β F) v x

theorem Sound1.of {o : Oper} {x : V} {s : Sem Value} (hs : execOp a.eval o = (do pure (Next.value (← s)))) (h : ∃ v, s.run P w = .ok v w ∧ RV (cx w.heap st.hp β F) v x) : Sound1 P w β F st a o x := by
  obtain ⟨v, h1, h2⟩ := h
  exact ⟨v, by rw [hs]; simp [h1], h2⟩

theorem nilSl_iff {v : Value} {x : V} (hk : HOK w.heap st.hp β F) (hr : RV (cx w.heap st.hp β F) v x) (ho : okSl st.hp x) (hx : x.nilSl = true ∨ x.slLen ≠ 0) :
    ∃ base len cap, v = .slice base len cap ∧ base.isNone = x.nilSl := by
  obtain ⟨base, len, cap, rfl, h1, h2, h3, h4⟩ := hr.sl hk ho
  refine ⟨base, len, cap, rfl, ?_⟩
  cases hn : x.nilSl with
  | true => rw [(h3 hn).1]; rfl
  | false =>
    rw [hn] at hx
    have hx : x.slLen ≠ 0 := by rcases hx with hx | hx; cases hx; exact hx
    have h0 : 0 < len := by omega
    have : ∃ es, x.slEs es := by
      cases x <;> first | exact ⟨_, rfl⟩ | exact ⟨0, trivial⟩
    obtain ⟨es, he⟩ := this
    obtain ⟨ad, rfl, _⟩ := h4 es he 0 h0
    rfl

set_option maxHeartbeats 1000000 in
theorem L.sound {l : L} {o : Oper} (hR : Rel w β F N st a) (hc : cmpL P o.op = some l) (hp : l.pre st) : Sound1 P w β F st a o (l.val st) := by
  have hk := hR.hok
  obtain ⟨dst, op, ty, pos, after, guard⟩ := o
  simp only at hc
  cases op with
  | move x =>
    simp only [cmpL, Option.some.injEq] at hc; subst hc
    exact ⟨_, rfl, hR.ev x⟩
  | assign x =>
    simp only [cmpL, Option.some.injEq] at hc; subst hc
    exact ⟨_, rfl, hR.ev x⟩
  | pick c x y =>
    simp only [cmpL, Option.some.injEq] at hc; subst hc
    have h1 := (hR.ev c).of_bool hp
    have h2 : (execOp a.eval ⟨dst, .pick c x y, ty, pos, after, guard⟩) = (do pure (.value (if ← asBool (a.eval c) then a.eval x else a.eval y))) := rfl
    refine ⟨if (st.ev c).tru then a.eval x else a.eval y, by rw [h2, h1]; simp [asBool], ?_⟩
    show RV _ _ (if _ then _ else _)
    split
    · exact hR.ev x
    · exact hR.ev y
  | binOp op t x y t' =>
    have hs : execOp a.eval ⟨dst, .binOp op t x y t', ty, pos, after, guard⟩ = (do pure (Next.value (← (do eqGuard op t x y (a.eval x) (a.eval y); binOp op t (a.eval x) (a.eval y) : Sem Value)))) := rfl
    simp only [cmpL, cmpBin] at hc
    split at hc
    · simp only [Option.some.injEq] at hc; subst hc
      exact .of hs (sound_bin hR (t' := t') hp)
    · simp only [Option.some.injEq] at hc; subst hc
      exact .of hs (sound_bin hR (t' := t') hp)
    · next hu =>
      split at hc
      · next hop =>
        subst hop
        simp only [Option.some.injEq] at hc; subst hc
        obtain ⟨p1, p2⟩ := hp
        refine .of hs ⟨_, ?_, .a⟩
        rw [(hR.ev x).of_bool p1, (hR.ev y).of_bool p2]
        simp only [Sem.run_bind, eqGuard_bool, Result.andThen_ok]
        exact run_binOp_boolEq false hu
      · split at hc
        · next hop =>
          subst hop
          simp only [Option.some.injEq] at hc; subst hc
          obtain ⟨p1, p2⟩ := hp
          refine .of hs ⟨_, ?_, .a⟩
          rw [(hR.ev x).of_bool p1, (hR.ev y).of_bool p2]
          simp only [Sem.run_bind, eqGuard_bool, Result.andThen_ok]
          exact run_binOp_boolEq true hu
        · cases hc
    · next fs hu =>
      split at hc
      · cases hc
      · next hg =>
        simp only [Bool.or_eq_true, not_or, Bool.not_eq_true] at hg
        simp only [Option.bind_eq_some_iff] at hc
        obtain ⟨offs, hoffs, hc⟩ := hc
        have key : ∀ neg, (op = if neg then .neq else .eql) → l = .eqD neg offs x y → Sound1 P w β F st a ⟨dst, .binOp op t x y t', ty, pos, after, guard⟩ (l.val st) := by
          intro neg e1 e2
          subst e2
          obtain ⟨⟨xs, ys, g1, g2⟩, g3⟩ := run_binOp_structEq (P := P) (w := w) (t := t) neg hu hg.2 hoffs hp (hR.ev x) (hR.ev y)
          refine .of hs ⟨_, ?_, .a⟩
          rw [g1, g2] at g3 ⊢
          simp only [Sem.run_bind, run_eqGuard_agg w op t x y xs ys hg.1, Result.andThen_ok]
          rw [e1]; exact g3
        split at hc
        · next hop => cases hc; exact key false hop rfl
        · split at hc
          · next hop => cases hc; exact key true hop rfl
          · cases hc
    · next e hu =>
      split at hc
      · next hn =>
        have key : ∀ neg, (op = if neg then .neq else .eql) → l = .eqZ 0 neg x → Sound1 P w β F st a ⟨dst, .binOp op t x y t', ty, pos, after, guard⟩ (l.val st) := by
          intro neg e1 e2
          subst e2
          obtain ⟨p1, p2⟩ := hp
          obtain ⟨g1, g2⟩ := run_eqZ (P := P) (t := t) (v := a.eval y) (kd := 0) neg hk hn (fun c e => by rw [e]; rfl) (hR.ev x) p1 p2 ⟨fun _ => ⟨_, hu⟩, fun h => (by cases h), fun h => (by cases h)⟩
          refine .of hs ⟨_, ?_, .a⟩
          simp only [Sem.run_bind, eqGuard_z (kd := 0) g1, Result.andThen_ok]
          rw [e1]; exact g2
        split at hc
        · next hop => cases hc; exact key false hop rfl
        · split at hc
          · next hop => cases hc; exact key true hop rfl
          · cases hc
      · cases hc
    · next k e hu =>
      split at hc
      · next hn =>
        have key : ∀ neg, (op = if neg then .neq else .eql) → l = .eqZ 1 neg x → Sound1 P w β F st a ⟨dst, .binOp op t x y t', ty, pos, after, guard⟩ (l.val st) := by
          intro neg e1 e2
          subst e2
          obtain ⟨p1, p2⟩ := hp
          obtain ⟨g1, g2⟩ := run_eqZ (P := P) (t := t) (v := a.eval y) (kd := 1) neg hk hn (fun c e => by rw [e]; rfl) (hR.ev x) p1 p2 ⟨fun h => (by cases h), fun _ => ⟨_, _, hu⟩, fun h => (by cases h)⟩
          refine .of hs ⟨_, ?_, .a⟩
          simp only [Sem.run_bind, eqGuard_z (kd := 1) g1, Result.andThen_ok]
          rw [e1]; exact g2
        split at hc
        · next hop => cases hc; exact key false hop rfl
        · split at hc
          · next hop => cases hc; exact key true hop rfl
          · cases hc
      · cases hc
    · next e1 e2 e3 hu =>
      split at hc
      · next hn =>
        have key : ∀ neg, (op = if neg then .neq else .eql) → l = .eqZ 2 neg x → Sound1 P w β F st a ⟨dst, .binOp op t x y t', ty, pos, after, guard⟩ (l.val st) := by
          intro neg e1 e2
          subst e2
          obtain ⟨p1, p2⟩ := hp
          obtain ⟨g1, g2⟩ := run_eqZ (P := P) (t := t) (v := a.eval y) (kd := 2) neg hk hn (fun c e => by rw [e]; rfl) (hR.ev x) p1 p2 ⟨fun h => (by cases h), fun h => (by cases h), fun _ => ⟨_, _, _, hu⟩⟩
          refine .of hs ⟨_, ?_, .a⟩
          simp only [Sem.run_bind, eqGuard_z (kd := 2) g1, Result.andThen_ok]
          rw [e1]; exact g2
        split at hc
        · next hop => cases hc; exact key false hop rfl
        · split at hc
          · next hop => cases hc; exact key true hop rfl
          · cases hc
      · cases hc
    · next e hu =>
      split at hc
      · next hn =>
        unfold isNilSl at hn
        split at hn
        · split at hc
          · next hop =>
            subst hop
            simp only [Option.some.injEq] at hc; subst hc
            obtain ⟨p1, p2⟩ := hp
            obtain ⟨base, len, cap, e1, e2⟩ := nilSl_iff hk (hR.ev x) p1 p2
            refine .of hs ⟨_, ?_, .a⟩
            rw [e1]
            simp only [Act.eval, Sem.run_bind, eqGuard_slice, Result.andThen_ok]
            rw [← e2]
            exact run_binOp_nil false hu rfl
          · split at hc
            · next hop =>
              subst hop
              simp only [Option.some.injEq] at hc; subst hc
              obtain ⟨p1, p2⟩ := hp
              obtain ⟨base, len, cap, e1, e2⟩ := nilSl_iff hk (hR.ev x) p1 p2
              refine .of hs ⟨_, ?_, .a⟩
              rw [e1]
              simp only [Act.eval, Sem.run_bind, eqGuard_slice, Result.andThen_ok]
              rw [← e2]
              exact run_binOp_nil true hu rfl
            · cases hc
        · cases hn
      · cases hc
    · cases hc
  | unOp op t x =>
    simp only [cmpL] at hc
    split at hc
    · next hop =>
      subst hop
      simp only [Option.some.injEq] at hc; subst hc
      refine .of rfl ⟨_, ?_, .a⟩
      rw [(hR.ev x).of_int hp]
      simp [Op.unary, Op.intArith]
    · split at hc
      · next hop =>
        subst hop
        simp only [Option.some.injEq] at hc; subst hc
        refine .of rfl ⟨_, ?_, .a⟩
        rw [(hR.ev x).of_bool hp]
        simp [Op.unary]
      · cases hc
  | load t x =>
    simp only [cmpL, Option.bind_eq_some_iff, Option.some.injEq] at hc
    obtain ⟨i, hi, agg, ha, rfl⟩ := hc
    exact .of rfl (run_loadVar' hk (hR.ev x) hi ha hp)
  | nilCheck x =>
    simp only [cmpL, Option.some.injEq] at hc; subst hc
    have hx := hR.ev x
    have hp : okNil st.hp (st.ev x) := hp
    unfold okNil at hp
    show Sound1 _ _ _ _ _ _ _ (st.ev x)
    split at hp
    · next f fs cs e =>
      rw [e] at hx
      rw [e]
      generalize hv : a.eval x = v at hx
      cases hx with
      | fn h1 h2 h3 h4 =>
        rename_i vs us
        refine ⟨.func (.func f) vs us, ?_, .fn h1 h2 h3 h4⟩
        simp only [execOp, hv]
        rfl
    · obtain ⟨b, o, e⟩ := hx.of_okAt hk hp
      refine ⟨a.eval x, ?_, hx⟩
      simp only [execOp, e]
      rfl
  | fieldAddr s x f =>
    simp only [cmpL, cmpFad] at hc
    split at hc <;> first | cases hc | skip
    next fs hu =>
    simp only [Option.bind_eq_some_iff] at hc
    obtain ⟨fd, hf, i, hi, hc⟩ := hc
    split at hc <;> first | cases hc | skip
    next hz =>
    obtain ⟨b, o, e, r⟩ := (hR.ev x).plus hk hp fd.offset
    refine .of rfl ⟨_, ?_, r⟩
    rw [e]
    simp [Instr.fieldAt, run_underlying' hu, hf, Instr.sureAddr, fieldPlace, run_sizeOf' hi, hz, addr_add]
  | field s x f =>
    simp only [cmpL, cmpFld] at hc
    split at hc <;> first | cases hc | skip
    next fs hu =>
    simp only [Option.bind_eq_some_iff, Option.some.injEq] at hc
    obtain ⟨fd, hf, i, hi, agg, ha, rfl⟩ := hc
    simp only [L.pre] at hp
    split at hp
    · next cs e =>
      have hx := hR.ev x
      rw [e] at hx
      obtain ⟨vs, e2, h1, h2, h2'⟩ := hx.of_agg
      have hp' : fd.offset + (if agg then i.size else 1) ≤ cs.length := by cases agg <;> simpa using hp
      obtain ⟨u, h3, h4⟩ := run_part' (w := w) hi ha h1 h2 h2' hp'
      refine .of rfl ⟨u, ?_, ?_⟩
      · rw [e2]; simp [Instr.field, run_underlying' hu, hf, asAgg, h3]
      · simp only [L.val, e, V.cells]; exact h4
    · exact hp.elim
  | indexAddr t x i =>
    simp only [cmpL, cmpIxA] at hc
    split at hc <;> first | cases hc | skip
    · next e hu =>
      simp only [Option.bind_eq_some_iff, Option.some.injEq] at hc
      obtain ⟨inf, hi, rfl⟩ := hc
      obtain ⟨p1, p2, p3, p4, p5⟩ := hp
      obtain ⟨base, len, cap, e1, e2, e3, e4, e5⟩ := (hR.ev x).sl hk p1
      obtain ⟨ad, rfl, r⟩ := e5 _ p2 (st.ev i).num.toNat (by omega)
      refine .of rfl ⟨_, ?_, r⟩
      rw [e1, (hR.ev i).of_int p3]
      have hlt : (st.ev i).num < (len : Int) := by omega
      simp [Instr.indexAt, asIntOf, run_underlying' hu, run_sizeOf' hi, p4, hlt]
    · next n e hu =>
      simp only [Option.bind_eq_some_iff, Option.some.injEq] at hc
      obtain ⟨inf, hi, rfl⟩ := hc
      obtain ⟨p1, p3, p4, p5⟩ := hp
      obtain ⟨b, o, e1, r⟩ := (hR.ev x).plus hk p1 ((st.ev i).num.toNat * inf.size)
      refine .of rfl ⟨_, ?_, r⟩
      rw [e1, (hR.ev i).of_int p3]
      simp [Instr.indexAt, asIntOf, run_underlying' hu, run_sizeOf' hi, p4, p5, Instr.sureAddr, addr_add]
  | index t x i =>
    simp only [cmpL, cmpIx] at hc
    split at hc <;> first | cases hc | skip
    · next hu =>
      obtain ⟨p1, p2, p3, p4⟩ := hp
      refine .of rfl ⟨_, ?_, .a⟩
      rw [(hR.ev x).of_str p1, (hR.ev i).of_int p2]
      have hlt : (st.ev i).num.toNat < (st.ev x).txt.size := by omega
      simp [Instr.index, asIntOf, run_underlying' hu, p3, range_lt _ hlt, byteAt]
    · next n e hu =>
      simp only [Option.bind_eq_some_iff, Option.some.injEq] at hc
      obtain ⟨inf, hi, agg, ha, rfl⟩ := hc
      obtain ⟨p1, p2, p3, p4⟩ := hp
      split at p4
      · next cs e1 =>
        have hx := hR.ev x
        rw [e1] at hx
        obtain ⟨vs, e2, h1, h2, h2'⟩ := hx.of_agg
        have hp' : (st.ev i).num.toNat * inf.size + (if agg then inf.size else 1) ≤ cs.length := by cases agg <;> simpa using p4
        obtain ⟨u, h3, h4⟩ := run_part' (w := w) hi ha h1 h2 h2' hp'
        refine .of rfl ⟨u, ?_, ?_⟩
        · rw [e2, (hR.ev i).of_int p1]
          simp [Instr.index, asIntOf, run_underlying' hu, p2, p3, run_sizeOf' hi, h3]
        · simp only [L.val, e1, V.cells]; exact h4
      · exact p4.elim
  | extract x i =>
    simp only [cmpL, Option.some.injEq] at hc; subst hc
    simp only [L.pre] at hp
    split at hp
    · next vs e =>
      have hx := hR.ev x
      rw [e] at hx
      obtain ⟨us, e2, h1, h2⟩ := hx.of_tup
      have g1 : us[i]? = some us[i] := Array.getElem?_eq_getElem (by omega)
      refine .of rfl ⟨us[i], ?_, ?_⟩
      · rw [e2]; simp [Instr.extract, g1]
      · simp only [L.val, e]
        exact h2 i _ _ g1 (get_of_getD hp)
    · exact hp.elim
  | convert s d x =>
    simp only [cmpL, cmpConv] at hc
    split at hc <;> first | cases hc | skip
    · next k1 k2 h1 h2 =>
      refine .of rfl ⟨_, ?_, .a⟩
      rw [(hR.ev x).of_int hp]
      simp [convert, run_underlying' h1, run_underlying' h2, Conv.intToInt]
    · next e h1 h2 =>
      split at hc <;> first | cases hc | skip
      next h3 =>
      simp only [Option.bind_eq_some_iff] at hc
      obtain ⟨inf, hinf, hc⟩ := hc
      split at hc <;> first | cases hc | skip
      obtain ⟨p1, p2, p3⟩ := hp
      refine .of rfl ⟨_, ?_, .a⟩
      have hb := (hR.ev x).bytes (P := P) hk p1 p2 p3
      obtain ⟨base, len, cap, e1, _⟩ := (hR.ev x).sl hk p1
      rw [e1] at hb ⊢
      simp only [convert, Sem.run_bind, run_underlying' h1, run_underlying' h2, Result.andThen_ok, run_underlying' h3]
      exact hb
  | lookup t x i ok =>
    simp only [cmpL, cmpLkp] at hc
    split at hc <;> first | cases hc | skip
    next kt et hm =>
    split at hc <;> first | cases hc | skip
    next kd hkt =>
    simp only [Option.bind_eq_some_iff] at hc
    obtain ⟨inf, hinf, z, hz, hc⟩ := hc
    have key : ∀ zv : V, RV (cx w.heap st.hp β F) z zv → l = .lkp ok kd zv x i → Sound1 P w β F st a ⟨dst, .lookup t x i ok, ty, pos, after, guard⟩ (l.val st) := by
      intro zv rz e
      subst e
      obtain ⟨p1, p2, p3⟩ := hp
      obtain ⟨r, g1, g2⟩ := run_lookup (P := P) (ok := ok) hk hm hkt hinf hz rz (hR.ev x) p1 p2 (hR.ev i) p3
      exact .of rfl ⟨r, g1, g2⟩
    split at hc
    · next vs =>
      split at hc
      · next hone =>
        cases hc
        refine key _ (.agg (by simp) (fun j v hv => ?_) fun j v y h1 h2 => ?_) rfl
        · exact List.all_eq_true.1 hone v (by simpa using Array.mem_of_getElem? hv)
        · simp only [List.getElem?_map, Array.getElem?_toList, h1, Option.map_some, Option.some.injEq] at h2
          subst h2; exact .a
      · cases hc
    · cases hc; exact key _ .a rfl
  | makeFunc fn first cap =>
    simp only [cmpL, Option.some.injEq] at hc; subst hc
    refine .of rfl ⟨_, rfl, .fn (by simp) (by simp) (fun i v x h1 h2 => ?_) fun i v x h1 h2 => ?_⟩
    all_goals
      simp only [Array.getElem?_map, List.getElem?_map, Array.getElem?_toList, Option.map_eq_some_iff] at h1 h2
      obtain ⟨p, hp1, rfl⟩ := h1
      obtain ⟨q, hq1, rfl⟩ := h2
      rw [hp1] at hq1; injection hq1 with hq1; subst hq1
      exact hR.ev p
  | makeInterface t x =>
    simp only [cmpL, cmpMkif] at hc
    split at hc <;> first | cases hc | skip
    next d hni hu =>
    refine .of rfl ⟨_, ?_, .ifc (hR.ev x)⟩
    simp only [Instr.makeInterface, Sem.run_bind, run_underlying' hu, Result.andThen_ok, Sem.run_pure]
  | slice t x lo hi mx =>
    cases mx with
    | some _ => simp [cmpL] at hc
    | none =>
    simp only [cmpL, cmpSl, Option.isNone_none, if_true] at hc
    split at hc <;> first | cases hc | skip
    · next hu =>
      obtain ⟨p1, p2, p3, p4, p5, p6⟩ := hp
      refine .of rfl ⟨_, ?_, .a⟩
      rw [(hR.ev x).of_str p1]
      have hb := run_sliceBounds (P := P) (sl := false) (len := (st.ev x).txt.size) (cap := (st.ev x).txt.size) (lo := lo) (hi := hi) hR (Nat.le_refl _) p2 p3 p4 p5 p6
      simp only [Instr.sliceAt, Instr.slice, Sem.run_bind, run_underlying' hu, Result.andThen_ok, Option.map_none, Option.isSome_none, Bool.false_eq_true, if_false, hb, Sem.run_pure]
    · next e hu =>
      simp only [Option.bind_eq_some_iff, Option.some.injEq] at hc
      obtain ⟨inf, hinf, rfl⟩ := hc
      obtain ⟨p1, p0, p2, p3, p4, p5, p6⟩ := hp
      obtain ⟨base, len, cap, e1, e2, e3, r⟩ := (hR.ev x).cut hk p1 (lo := (optN st 0 lo).toNat) (hi := (optN st (st.ev x).slLen hi).toNat) p0 (by omega) (by omega)
      refine .of rfl ⟨_, ?_, r⟩
      have hb := run_sliceBounds (P := P) (sl := true) (len := len) (cap := cap) (lo := lo) (hi := hi) hR e3 p2 p3 p4 (by rw [e2]; exact p5) (by rw [e2]; exact p6)
      rw [e2] at hb
      rw [e1]
      simp only [Instr.sliceAt, Instr.slice, Sem.run_bind, run_underlying' hu, Result.andThen_ok, Option.map_none, hb, run_sizeOf' hinf, Sem.run_pure]
  | build t parts =>
    simp only [cmpL, cmpBuild, Option.bind_eq_some_iff] at hc
    obtain ⟨i, hi, z, hz, hc⟩ := hc
    split at hc <;> first | cases hc | skip
    next hzone =>
    have hzone' : ∀ (i : Nat) (u : Value), z.cells[i]? = some u → u.oneCell' = true := by
      intro i u hu
      simp only [Bool.not_eq_true, Bool.not_eq_false', List.all_eq_true] at hzone
      exact hzone u (by simpa using Array.mem_of_getElem? hu)
    split at hc <;> first | cases hc | skip
    · next fs hu =>
      split at hc <;> first | cases hc | skip
      next hall =>
      simp only [Option.map_eq_some_iff] at hc
      obtain ⟨ps, hps, rfl⟩ := hc
      obtain ⟨m1, m2⟩ := mapM_some hps
      obtain ⟨pl, hpl, hpl2⟩ := run_mapM_places (P := P) (w := w) (fs := fs) fun j f hf => by
        have : ((P.info? f.type).isSome) = true := by
          have := hall
          simp only [Bool.not_eq_true, Bool.not_eq_false', List.all_eq_true, Array.mem_toList_iff] at this
          exact this f (Array.mem_of_getElem? hf)
        exact Option.isSome_iff_exists.1 this
      obtain ⟨vs, h1, h2, h3, h3'⟩ := run_fill (c := cx w.heap st.hp β F) (pl[·]?) (parts.toList.map fun p => (p.1, a.eval p.2)) (ps.map fun p => (p.1, p.2.1, st.ev p.2.2)) z.cells (z.cells.toList.map .a)
        (by simp) zero_cells (by simp [m1]) (fun j q p hq hp' => by
          simp only [List.getElem?_map, Option.map_eq_some_iff] at hq hp'
          obtain ⟨q0, hq0, rfl⟩ := hq
          obtain ⟨p0, hp0, rfl⟩ := hp'
          obtain ⟨y, hy, hfy⟩ := m2 j q0 hq0
          rw [hp0] at hy; injection hy with hy; subst hy
          simp only [Option.bind_eq_some_iff, Option.map_eq_some_iff] at hfy
          obtain ⟨f, hf, fi, hfi, rfl⟩ := hfy
          obtain ⟨g1, g2⟩ := hp _ (List.mem_of_getElem? hp0)
          obtain ⟨s1, s2, s3, s4⟩ := (hR.ev q0.2).sized hk g1
          exact ⟨hpl2 _ _ _ hf hfi, s1, s2, by simpa using g2, s3, s4⟩) hzone'
      refine .of rfl ⟨.agg vs, ?_, .agg h2 h3' h3⟩
      simp only [Instr.build, Sem.run_bind, run_zeroValue' hi hz, run_underlying' hu, Result.andThen_ok, hpl]
      have : (parts.map fun x => (x.1, a.eval x.2)).toList = parts.toList.map fun p => (p.1, a.eval p.2) := by simp
      rw [this, h1]
      rfl
    · next n e hu =>
      simp only [Option.bind_eq_some_iff, Option.some.injEq] at hc
      obtain ⟨ei, hei, rfl⟩ := hc
      obtain ⟨vs, h1, h2, h3, h3'⟩ := run_fill (c := cx w.heap st.hp β F) (fun i => some (i * ei.size, ei.size)) (parts.toList.map fun p => (p.1, a.eval p.2)) (parts.toList.map fun p => (p.1 * ei.size, ei.size, st.ev p.2)) z.cells (z.cells.toList.map .a)
        (by simp) zero_cells (by simp) (fun j q p hq hp' => by
          simp only [List.getElem?_map, Option.map_eq_some_iff] at hq hp'
          obtain ⟨q0, hq0, rfl⟩ := hq
          obtain ⟨p0, hp0, rfl⟩ := hp'
          rw [hq0] at hp0; injection hp0 with hp0; subst hp0
          obtain ⟨g1, g2⟩ := hp (q0.1 * ei.size, ei.size, q0.2) (List.mem_map.2 ⟨q0, List.mem_of_getElem? hq0, rfl⟩)
          obtain ⟨s1, s2, s3, s4⟩ := (hR.ev q0.2).sized hk g1
          exact ⟨rfl, s1, s2, by simpa using g2, s3, s4⟩) hzone'
      refine .of rfl ⟨.agg vs, ?_, .agg (by simpa [L.val, List.map_map, Function.comp_def] using h2) h3' (by simpa [L.val, List.map_map, Function.comp_def] using h3)⟩
      simp only [Instr.build, Sem.run_bind, run_zeroValue' hi hz, run_underlying' hu, Result.andThen_ok, run_sizeOf' hei]
      have : (parts.map fun x => (x.1, a.eval x.2)).toList = parts.toList.map fun p => (p.1, a.eval p.2) := by simp
      rw [this, h1]
      rfl
  | call c =>
    obtain ⟨callee, args, argTypes⟩ := c
    cases callee with
    | value f => simp [cmpL] at hc
    | invoke f n => simp [cmpL] at hc
    | builtin b =>
      cases b <;> simp only [cmpL, cmpBi, reduceCtorEq] at hc
      case len =>
        simp only [Option.bind_eq_some_iff, cmpLen] at hc
        obtain ⟨t, ht, x, hx, hc⟩ := hc
        have hx' : (args.map a.eval)[0]? = some (a.eval x) := by simp [hx]
        split at hc <;> first | cases hc | skip
        · next hu =>
          refine ⟨_, ?_, .a⟩
          simp only [execOp, resolve, invoke, builtin, Builtin.len_, Sem.run_bind, Sem.run_pure, Result.andThen_ok, ht, hx', run_underlying' hu, (hR.ev x).of_str hp]
          rfl
        · next e hu =>
          obtain ⟨base, len, cap, e1, e2, _⟩ := (hR.ev x).sl hk hp
          refine ⟨_, ?_, .a⟩
          simp only [execOp, resolve, invoke, builtin, Builtin.len_, Sem.run_bind, Sem.run_pure, Result.andThen_ok, ht, hx', run_underlying' hu, e1]
          rw [e2]; rfl
        · next n e hu =>
          refine ⟨_, ?_, .a⟩
          simp only [execOp, resolve, invoke, builtin, Builtin.len_, Sem.run_bind, Sem.run_pure, Result.andThen_ok, ht, hx', run_underlying' hu]
          rfl
        · next k e hu =>
          refine ⟨_, ?_, .a⟩
          have := run_len_map (P := P) (ty := ty) (ats := argTypes) (args := args.map a.eval) hk ht hx' hu (hR.ev x) hp
          simp only [execOp, resolve, invoke, builtin, Sem.run_bind, Sem.run_pure, Result.andThen_ok, this]
      case max =>
        simp only [Option.some.injEq] at hc; subst hc
        simp only [L.pre] at hp
        split at hp
        · next x rest e =>
          refine ⟨_, ?_, by simp only [L.val, e]; exact .a⟩
          have := run_foldMax (P := P) (mx := true) rest hR (st.ev x).kindOf (st.ev x).num hp.2
          simp only [if_true] at this
          simp only [execOp, resolve, invoke, builtin, Builtin.max_, Sem.run_bind, Sem.run_pure, Result.andThen_ok, Array.toList_map, e, List.map_cons, (hR.ev x).of_int hp.1, this]
        · exact hp.elim
      case min =>
        simp only [Option.some.injEq] at hc; subst hc
        simp only [L.pre] at hp
        split at hp
        · next x rest e =>
          refine ⟨_, ?_, by simp only [L.val, e]; exact .a⟩
          have := run_foldMax (P := P) (mx := false) rest hR (st.ev x).kindOf (st.ev x).num hp.2
          simp only [Bool.false_eq_true, if_false] at this
          simp only [execOp, resolve, invoke, builtin, Builtin.min_, Sem.run_bind, Sem.run_pure, Result.andThen_ok, Array.toList_map, e, List.map_cons, (hR.ev x).of_int hp.1, this]
        · exact hp.elim
  | _ => simp [cmpL] at hc

end
end Go.Abs
