import Derived.Test.YtgbkambljlijmaaGreatRmV2
import Derived.Test.YtgbkambljlijmaaGreatProg
import Derived.KernelRfl
set_option linter.all false
/- Functions. -/
namespace Go.Abs
set_option linter.unusedVariables false

inductive Rs where
  | sl (slot : Nat)
  | ce (slot : Nat) (agg : Bool) (n : Nat)
  deriving Inhabited

def Rs.val (s : St) : Rs → V
  | .sl k => gt s.sl k
  | .ce k agg n => ldV s.hp agg n (gt s.sl k)
def Rs.ok (s : St) : Rs → Prop
  | .sl _ => True
  | .ce k agg n => ldP s.hp agg n (gt s.sl k)

def resV (s : St) : List Rs → V
  | [r] => r.val s
  | rs => .tup (rs.map (Rs.val s))
def resP (s : St) : List Rs → Prop
  | [] => True
  | r :: rs => r.ok s ∧ resP s rs

def cmpRs (P : Program) : ResultVar → Option Rs
  | .tmp t => some (.sl t)
  | .cell a t => (P.info? t).bind fun i => (isAggP P t).map fun agg => .ce a agg i.size

/-- Function f has this IR. -/
def isFn (P : Program) (f : FuncId) (N : Nat) (ann : List (Nat × RA)) (ir : C) (rs : List Rs) : Prop :=
  ∃ fn code, P.funcs[f]? = some fn ∧ fn.body = some code ∧ fn.ntmps = N ∧ cmpC P N ann code = some ir ∧ fn.results.toList.mapM (cmpRs P) = some rs

def initS : List V → Nat → Sl
  | [], _ => e0
  | x :: l, k => up (initS l (k + 1)) k x

theorem initS_get : ∀ (xs : List V) (k t : Nat), gt (initS xs k) t = if k ≤ t then (xs[t - k]?).getD .any else .any := by
  intro xs
  induction xs with
  | nil => intro k t; simp [initS, gt_e0]
  | cons x xs ih =>
    intro k t
    simp only [initS, gt_up]
    by_cases h : k = t
    · subst h; simp
    · rw [if_neg h, ih]
      by_cases h2 : k ≤ t
      · rw [if_pos (by omega), if_pos h2, show t - k = (t - (k + 1)) + 1 from by omega]; rfl
      · rw [if_neg (by omega), if_neg h2]

def resOne (tmps : Array Value) (r : ResultVar) : Sem Value :=
  match r with
  | .tmp t => pure (tmps.getD t undef)
  | .cell b t => do loadVar t (← asAddr (tmps.getD b undef))

section
variable {P : Program}

theorem run_results {w : World} {β : Nat → Hd} {F : Nat → Prop} {N : Nat} {s : St} {a : Act} (hR : Rel w β F N s a) : ∀ (l : List ResultVar) (rs : List Rs), l.mapM (cmpRs P) = some rs → resP s rs →
    ∃ vs : List Value, (l.mapM (resOne a.tmps)).run P w = .ok vs w ∧ vs.length = rs.length ∧
      ∀ (i : Nat) (v : Value) (r : Rs), vs[i]? = some v → rs[i]? = some r → RV (cx w.heap s.hp β F) v (r.val s) := by
  intro l
  induction l with
  | nil => intro rs h _; simp at h; subst h; exact ⟨[], by simp, rfl, fun i v r h => by simp at h⟩
  | cons x l ih =>
    intro rs h hp
    simp only [List.mapM_cons, Option.bind_eq_bind, Option.bind_eq_some_iff, Option.pure_def, Option.some.injEq] at h
    obtain ⟨r, hr, rs', hrs, rfl⟩ := h
    obtain ⟨hp1, hp2⟩ := hp
    obtain ⟨vs, h1, h2, h3⟩ := ih rs' hrs hp2
    have one : ∃ v, (resOne a.tmps x).run P w = .ok v w ∧ RV (cx w.heap s.hp β F) v (r.val s) := by
      cases x with
      | tmp t =>
        simp only [cmpRs, Option.some.injEq] at hr; subst hr
        exact ⟨_, rfl, hR.sl t⟩
      | cell b t =>
        simp only [cmpRs, Option.bind_eq_some_iff, Option.map_eq_some_iff] at hr
        obtain ⟨i, hi, agg, ha, rfl⟩ := hr
        obtain ⟨u, e1, e2⟩ := run_loadVar' (P := P) hR.hok (hR.sl b) hi ha hp1
        obtain ⟨bb, o, e3, _⟩ := (hR.sl b).cells hR.hok hp1.1
        refine ⟨u, ?_, e2⟩
        rw [e3] at e1
        show (do loadVar t (← asAddr (a.tmps.getD b undef)) : Sem Value).run P w = _
        rw [e3]
        simp only [Instr.loadAt, Instr.sureAddr, Sem.run_bind, Sem.run_pure, Result.andThen_ok] at e1
        simp only [asAddr, Sem.run_bind, Sem.run_pure, Result.andThen_ok]
        exact e1
    obtain ⟨v, hv, rv⟩ := one
    refine ⟨v :: vs, ?_, by simp [h2], fun i u q hu hq => ?_⟩
    · simp only [List.mapM_cons, Sem.run_bind, hv, Result.andThen_ok, h1, Sem.run_pure]
    · cases i with
      | zero => simp at hu hq; subst hu hq; exact rv
      | succ i => exact h3 i u q hu hq

/-- A function's body gives its call. -/
theorem DC.of {f : FuncId} {N : Nat} {ann : List (Nat × RA)} {ir : C} {rs : List Rs} {xs : List V} {H : Heap} {Q : V → Heap → Prop} (hf : isFn P f N ann ir rs) (hl : xs.length ≤ N)
    (h : vc P ir (fun e s => match e with | .exit _ => False | _ => resP s rs ∧ Q (resV s rs) s.hp) ⟨initS xs 0, H, 0⟩) : DC P f xs H Q := by
  obtain ⟨fn, code, h1, h2, h3, h4, h5⟩ := hf
  intro w β F vs hk hr
  refine calls_of_wp h1 h2 ?_
  have hR : Rel w β F N ⟨initS xs 0, H, 0⟩ { tmps := vs ++ Array.replicate (fn.ntmps - vs.size) undef, defers := [] } := by
    refine ⟨hk, fun t => ?_, rfl, by have := hr.1; simp; omega⟩
    simp only [initS_get, Nat.zero_le, if_true, Nat.sub_zero]
    by_cases ht : t < xs.length
    · have hx : xs[t]? = some xs[t] := List.getElem?_eq_getElem ht
      have hv : vs[t]? = some (vs[t]'(by rw [hr.1]; exact ht)) := Array.getElem?_eq_getElem _
      rw [hx]
      simp only [Array.getD_eq_getD_getElem?, Array.getElem?_append]
      rw [if_pos (by rw [hr.1]; exact ht), hv]
      exact hr.2 t _ _ hv hx
    · rw [List.getElem?_eq_none (by omega)]
      exact .any
  refine wp_mono (vc_sound (n0 := H.length) code ir _ _ h4 (Nat.le_refl _) h w β F _ hR) fun e a' w' hL => ?_
  obtain ⟨x, β', st', rfl, h2', h3', h4', h5'⟩ := hL
  have fin : (resP st' rs ∧ Q (resV st' rs) st'.hp) → a'.defers = [] ∧ ∃ v, (results fn a'.tmps).run P w' = .ok v w' ∧ ∃ r x H' β', Ending.returned v = .returned r ∧ Adv F w H β w' H' β' ∧ RV (cx w'.heap H' β' F) r x ∧ Q x H' := by
    rintro ⟨hp, hQ⟩
    refine ⟨h3'.df, ?_⟩
    obtain ⟨us, e1, e2, e3⟩ := run_results (P := P) h3' fn.results.toList rs h5 hp
    have hadv : Adv F w H β w' st'.hp β' := by
      refine ⟨h3'.hok, ⟨h2'.size, h2'.same, fun id hl => ?_, fun id g hl e => ?_⟩, h2'.ext⟩
      · obtain ⟨o, ho, ho2⟩ := hl
        exact h2'.live id (lt_of_get ho) ⟨o, ho, ho2⟩
      · obtain ⟨o, ho, ho2⟩ := hl
        exact h2'.hd id g (lt_of_get ho) ⟨o, ho, ho2⟩ e
    have hrun : (results fn a'.tmps).run P w' = .ok (if h : us.length = 1 then us[0] else .tuple us.toArray) w' := by
      have hres : results fn a'.tmps = (do let vs ← fn.results.mapM (resOne a'.tmps); pure (if h : vs.size = 1 then vs[0] else .tuple vs)) := rfl
      rw [hres, Array.mapM_eq_mapM_toList]
      simp only [Sem.run_bind, Sem.run_map, e1, Result.andThen_ok, Sem.run_pure]
      simp
    refine ⟨_, hrun, _, resV st' rs, st'.hp, β', rfl, hadv, ?_, hQ⟩
    match rs, e2, e3 with
    | [r], e2, e3 =>
      have hl1 : us.length = 1 := by simpa using e2
      rw [dif_pos hl1]
      simp only [resV]
      exact e3 0 _ r (List.getElem?_eq_getElem (by omega)) rfl
    | [], e2, e3 =>
      have hl0 : us.length = 0 := by simpa using e2
      rw [dif_neg (by omega)]
      simp only [resV]
      exact .tup (by simpa using e2) fun i v x h1 h2 => by simp at h2
    | r1 :: r2 :: rs', e2, e3 =>
      have hl2 : us.length = rs'.length + 2 := by simpa using e2
      rw [dif_neg (by omega)]
      simp only [resV]
      refine .tup (by simp [hl2]) fun i v x h1 h2 => ?_
      simp only [List.getElem?_map, Option.map_eq_some_iff] at h2
      obtain ⟨r, hr', rfl⟩ := h2
      exact e3 i v r (by simpa using h1) hr'
  cases x with
  | norm => exact fin h5'
  | exit i => exact h5'.elim
  | ret => exact fin h5'

end
end Go.Abs

/- Words for the evaluation of functions. -/
namespace Go.Abs
set_option linter.unusedVariables false

section
variable {P : Program} {Q : Ex → St → Prop} {st : St} {x : Operand} {a b : C} {k : St → Prop} {l : List It} {j t : Nat} {want : Bool} {d : Option Nat} {i : I}
@[simp ↓ high] theorem vc_cond_true (h : st.ev x = .a (.bool true)) : vc P (.cond x a b) Q st = vc P a Q st := by simp only [vc, h]; simp
@[simp ↓ high] theorem vc_cond_false (h : st.ev x = .a (.bool false)) : vc P (.cond x a b) Q st = vc P b Q st := by simp only [vc, h]; simp
@[simp ↓ high] theorem vcIts_gd_pos (h : gt st.sl t = .a (.bool want)) : vcIts P (.gd j t want d i :: l) k st = i.vc P (vcIts P l k) (st.put (some t) (.bool want)) := by
  simp only [vcIts, h]; cases want <;> simp [St.put]
@[simp ↓ high] theorem vcIts_gd_neg (h : gt st.sl t = .a (.bool (!want))) : vcIts P (.gd j t want d i :: l) k st = vcIts P l k ((st.put (some t) (.bool !want)).put d (.a undef)) := by
  simp only [vcIts, h]; cases want <;> simp [St.put]
@[simp ↓ high] theorem vcIts_gd_un (h : gt st.sl t = .a (.tuple #[])) : vcIts P (.gd j t want d i :: l) k st = vcIts P l k (st.put d (.a undef)) := by simp only [vcIts, h]
end

attribute [simp] vc vcIts L.pre L.val St.ev cv gt_up gt_e0 keepS St.put St.res binV binP binI binIP V.isBool V.isInt V.num V.tru V.fzP V.fz V.kindOf okNil okAt V.plus ldP ldV cellsAt
  V.sized V.one Value.oneCell' rowSet addRefs V.idsL V.ids V.cells okSl V.slEs V.slLen V.elemAt V.isStr V.txt V.entsOf okMp isK eqK V.nilK okZ V.rowsOf V.rowIds chunk fillV V.oid V.nilSl V.isA V.cut optN optP initS
  resP resV Rs.ok Rs.val V.fzPL V.fzL trimS_up trimS_e0 lim binS binSP St.trim limO O.fz Heap.fz mxI putE V.isByte

attribute [simp] undef I.bsvV addAll idx back V.renL V.ren V.flat V.flatL

section
variable (r : List Nat) (x : List (List Ce)) (y : List (List V)) (b : Bool)
@[simp] theorem isTree_tree : (O.tree r x).isTree = true := rfl
@[simp] theorem trows_tree : (O.tree r x).trows = x.length := rfl
@[simp] theorem isTree_mem : (O.mem b r y).isTree = false := rfl
@[simp] theorem isTree_dead : O.dead.isTree = false := rfl
@[simp] theorem isTree_res : O.res.isTree = false := rfl
variable (es : List (V × V)) (n : Nat) (f : Nat → Nat)
@[simp] theorem isMem_mem : (O.mem b r y).isMem = true := rfl
@[simp] theorem isMem_map : (O.map b r es).isMem = false := rfl
@[simp] theorem isMem_tree : (O.tree r x).isMem = false := rfl
@[simp] theorem isMem_dead : O.dead.isMem = false := rfl
@[simp] theorem isMem_res : O.res.isMem = false := rfl
@[simp] theorem isMap_mem : (O.mem b r y).isMap = false := rfl
@[simp] theorem isMap_map : (O.map b r es).isMap = true := rfl
@[simp] theorem isMap_tree : (O.tree r x).isMap = false := rfl
@[simp] theorem isMap_dead : O.dead.isMap = false := rfl
@[simp] theorem isMap_res : O.res.isMap = false := rfl
@[simp] theorem hasTot_mem : (O.mem b r y).hasTot n = (y.length = n) := rfl
@[simp] theorem hasTot_map : (O.map b r es).hasTot n = False := rfl
@[simp] theorem hasTot_tree : (O.tree r x).hasTot n = (x.length = n) := rfl
@[simp] theorem hasTot_dead : O.dead.hasTot n = False := rfl
@[simp] theorem hasTot_res : O.res.hasTot n = False := rfl
@[simp] theorem refs_mem : (O.mem b r y).refs = r := rfl
@[simp] theorem refs_map : (O.map b r es).refs = r := rfl
@[simp] theorem refs_tree : (O.tree r x).refs = r := rfl
@[simp] theorem refs_dead : O.dead.refs = [] := rfl
@[simp] theorem refs_res : O.res.refs = [] := rfl
@[simp] theorem oren_mem : O.ren f (.mem b r y) = .mem b (r.map f) (y.map fun q => V.renL f q) := rfl
@[simp] theorem oren_map : O.ren f (.map b r es) = .map b (r.map f) (es.map fun e => (e.1, e.2.ren f)) := rfl
@[simp] theorem oren_tree : O.ren f (.tree r x) = .tree (r.map f) (Ce.renR f x) := rfl
@[simp] theorem oren_dead : O.ren f .dead = .dead := rfl
@[simp] theorem oren_res : O.ren f .res = .res := rfl
@[simp] theorem isMem_sit (z : ByteArray) : (O.sit z n).isMem = false := rfl
@[simp] theorem isMap_sit (z : ByteArray) : (O.sit z n).isMap = false := rfl
@[simp] theorem hasTot_sit (z : ByteArray) (k : Nat) : (O.sit z n).hasTot k = False := rfl
@[simp] theorem refs_sit (z : ByteArray) : (O.sit z n).refs = [] := rfl
@[simp] theorem oren_sit (z : ByteArray) : O.ren f (.sit z n) = .sit z n := rfl
@[simp] theorem isTree_sit (z : ByteArray) : (O.sit z n).isTree = false := rfl
@[simp] theorem isTree_map : (O.map b r es).isTree = false := rfl
@[simp] theorem rows_mem : (O.mem b r y).rows = y := rfl
@[simp] theorem rows_map : (O.map b r es).rows = [] := rfl
@[simp] theorem rows_tree : (O.tree r x).rows = [] := rfl
@[simp] theorem rows_dead : O.dead.rows = [] := rfl
@[simp] theorem rows_res : O.res.rows = [] := rfl
@[simp] theorem rows_sit (z : ByteArray) : (O.sit z n).rows = [] := rfl
@[simp] theorem ents_mem : (O.mem b r y).ents = [] := rfl
@[simp] theorem ents_map : (O.map b r es).ents = es := rfl
@[simp] theorem ents_tree : (O.tree r x).ents = [] := rfl
@[simp] theorem ents_dead : O.dead.ents = [] := rfl
@[simp] theorem ents_res : O.res.ents = [] := rfl
@[simp] theorem isMem_ofz (o : O) : o.fz.isMem = o.isMem := by cases o <;> rfl
@[simp] theorem isMap_ofz (o : O) : o.fz.isMap = o.isMap := by cases o <;> rfl
end

@[congr] theorem vc_congr {P : Program} {c : C} {Q : Ex → St → Prop} {st st' : St} (h : st = st') : vc P c Q st = vc P c Q st' := by rw [h]
@[congr] theorem vcIts_congr {P : Program} {l : List It} {k : St → Prop} {st st' : St} (h : st = st') : vcIts P l k st = vcIts P l k st' := by rw [h]
@[congr] theorem Ivc_congr {P : Program} {i : I} {k : St → Prop} {st st' : St} (h : st = st') : i.vc P k st = i.vc P k st' := by rw [h]
@[congr] theorem WI_congr {P : Program} {c : C} {Q : Ex → St → Prop} {st st' : St} (h : st = st') : WI P c Q st = WI P c Q st' := by rw [h]
@[congr] theorem DP_congr {P : Program} {f : FuncId} {Q : V → Prop} {xs xs' : List V} (h : xs = xs') : DP P f xs Q = DP P f xs' Q := by rw [h]
@[congr] theorem DC_congr {P : Program} {f : FuncId} {Q : V → Heap → Prop} {xs xs' : List V} {H H' : Heap} (h : xs = xs') (hh : H = H') : DC P f xs H Q = DC P f xs' H' Q := by rw [h, hh]

theorem addAll_sub : ∀ (is l : List Nat), (∀ i ∈ is, i ∈ l) → addAll l is = l := by
  intro is
  induction is with
  | nil => intro l _; rfl
  | cons i is ih =>
    intro l h
    simp only [addAll]
    rw [if_pos (h i (by simp))]
    exact ih l fun k hk => h k (by simp [hk])

@[simp] theorem clos_stop (H : Heap) (n : Nat) (l : List Nat) (h : ∀ i ∈ l, ∀ k ∈ (H.getD i .dead).refs, k ∈ l) : clos H n l = l := by
  induction n with
  | zero => rfl
  | succ n ih =>
    simp only [clos]
    rw [addAll_sub _ _ fun i hi => ?_]
    · exact ih
    · obtain ⟨j, hj, hi⟩ := List.mem_flatMap.1 hi
      exact h j hj i hi

@[simp] theorem okSel_iff (H : Heap) (sel : List Nat) : OkSel H sel ↔ sel.Nodup ∧ (∀ i ∈ sel, i < H.length) ∧ (∀ i ∈ sel, H.getD i .dead ≠ .res) ∧ ∀ i ∈ sel, ∀ k ∈ (H.getD i .dead).refs, k ∈ sel :=
  ⟨fun h => ⟨h.nd, h.lt, h.nres, h.cl⟩, fun h => ⟨h.1, h.2.1, h.2.2.1, h.2.2.2⟩⟩

theorem wrap64 {n : Int} (h1 : -9223372036854775808 ≤ n) (h2 : n ≤ 9223372036854775807) : IntKind.i64.wrap n = n := by
  show (if (true && decide (n % 18446744073709551616 ≥ 9223372036854775808)) = true then n % 18446744073709551616 - 18446744073709551616 else n % 18446744073709551616) = n
  simp only [Bool.true_and, decide_eq_true_eq]
  split <;> omega

end Go.Abs

/- A cut: what stands between two pieces of code. -/
namespace Go.Abs
attribute [local simp] I.vc sub merge place

@[simp] theorem gt_trimS (n : Nat) (l : Sl) (t : Nat) : gt (trimS n l) t = lim n (gt l t) := rfl

theorem vcIts_mono' {P : Program} {K K' : St → Prop} (hk : ∀ s, K s → K' s) : ∀ {l : List It} {st : St}, vcIts P l K st → vcIts P l K' st := by
  intro l
  induction l with
  | nil => intro st h; exact hk _ h
  | cons it l ih =>
    intro st h
    cases it with
    | g i => exact I.vc_mono h fun s => ih
    | o j i => exact I.vc_mono h fun s => ih
    | gd j s want d i =>
      simp only [vcIts] at h ⊢
      split at h
      · next b e => exact ⟨fun hb => I.vc_mono (h.1 hb) fun s => ih, fun hb => ih (h.2 hb)⟩
      · next e => exact ih h
      · exact h.elim

theorem vc_mono {P : Program} : ∀ {c : C} {Q Q' : Ex → St → Prop} {st : St}, (∀ e s, Q e s → Q' e s) → vc P c Q st → vc P c Q' st := by
  intro c
  induction c with
  | skip => intro Q Q' st hq h; exact hq _ _ h
  | reg n its => intro Q Q' st hq h; exact vcIts_mono' (fun s => hq _ s) h
  | seq a b iha ihb =>
    intro Q Q' st hq h
    refine iha (fun e s hs => ?_) h
    cases e with
    | norm => exact ihb hq hs
    | exit i => exact hq _ _ hs
    | ret => exact hq _ _ hs
  | cond x a b iha ihb =>
    intro Q Q' st hq h
    simp only [vc] at h ⊢
    split at h
    · exact ⟨fun ht => iha hq (h.1 ht), fun ht => ihb hq (h.2 ht)⟩
    · exact h.elim
  | block id c ih =>
    intro Q Q' st hq h
    refine ih (fun e s hs => ?_) h
    cases e with
    | norm => exact hq _ _ hs
    | exit i =>
      simp only at hs ⊢
      by_cases hi : i = id
      · rw [if_pos hi] at hs ⊢; exact hq _ _ hs
      · rw [if_neg hi] at hs ⊢; exact hq _ _ hs
    | ret => exact hq _ _ hs
  | loop c ih => intro Q Q' st hq h; exact WI.mono h hq
  | exit i => intro Q Q' st hq h; exact hq _ _ h
  | ret => intro Q Q' st hq h; exact hq _ _ h

theorem vc_cut {P : Program} {a b : C} {Q : Ex → St → Prop} {st : St} (R : St → Prop) (h1 : vc P a (fun e s => match e with | .norm => R s | .exit i => Q (.exit i) s | .ret => Q .ret s) st) (h2 : ∀ s, R s → vc P b Q s) : vc P (.seq a b) Q st := by
  show vc P a _ st
  refine vc_mono (fun e s hs => ?_) h1
  cases e with
  | norm => exact h2 s hs
  | exit i => exact hs
  | ret => exact hs

theorem vcIts_cut {P : Program} {K : St → Prop} {l : List It} {st : St} (n : Nat) (R : St → Prop) (h1 : vcIts P (l.take n) R st) (h2 : ∀ s, R s → vcIts P (l.drop n) K s) : vcIts P l K st := by
  rw [← List.take_append_drop n l, vcIts_append]
  exact vcIts_mono' h2 h1

theorem vc_reg_of {P : Program} {n : Nat} {its : List It} {Q : Ex → St → Prop} {st : St} (h : vcIts P its (Q .norm) (st.res n)) : vc P (.reg n its) Q st := h

theorem vc_block_of {P : Program} {id : Nat} {c : C} {Q : Ex → St → Prop} {st : St} (h : vc P c (fun e s => match e with | .norm => Q .norm s | .exit i => if i = id then Q .norm s else Q (.exit i) s | .ret => Q .ret s) st) : vc P (.block id c) Q st := h
end Go.Abs

/- A value told otherwise; arguments that are told otherwise. -/
namespace Go.Abs
attribute [local simp] I.vc sub merge place

/-- What is so is also so. -/
def V.sub (x y : V) : Prop := ∀ (c : Cx) (v : Value), RV c v x → RV c v y
def V.subL (xs ys : List V) : Prop := xs.length = ys.length ∧ ∀ (i : Nat) (x y : V), xs[i]? = some x → ys[i]? = some y → x.sub y

theorem V.sub.refl (x : V) : x.sub x := fun _ _ h => h
theorem V.sub.nil (es : Nat) : (V.a (.slice none 0 0)).sub (.view es []) := fun c v h => by rw [h.of_a]; exact .nilv
theorem V.subL.nil : V.subL [] [] := ⟨rfl, fun i x y h => by simp at h⟩
theorem V.subL.cons {x y : V} {xs ys : List V} (h : x.sub y) (hs : V.subL xs ys) : V.subL (x :: xs) (y :: ys) := by
  refine ⟨by simp [hs.1], fun i u w h1 h2 => ?_⟩
  cases i with
  | zero => simp at h1 h2; subst h1; subst h2; exact h
  | succ i => exact hs.2 i u w (by simpa using h1) (by simpa using h2)
theorem V.subL.refl (xs : List V) : V.subL xs xs := ⟨rfl, fun i x y h1 h2 => by rw [h1] at h2; injection h2 with h2; subst h2; exact .refl _⟩
theorem V.sub.agg {xs ys : List V} (h : V.subL xs ys) : (V.agg xs).sub (.agg ys) := by
  intro c v hr
  cases hr with
  | agg hl h1 h2 =>
    refine .agg (by rw [hl]; exact h.1) h1 fun i v y hv hy => ?_
    have hi : i < xs.length := by rw [h.1]; exact lt_of_get hy
    exact h.2 i _ y (List.getElem?_eq_getElem hi) hy _ _ (h2 i v _ hv (List.getElem?_eq_getElem hi))

theorem DC.sub {P : Program} {f : FuncId} {xs ys : List V} {H : Heap} {Q : V → Heap → Prop} (hs : V.subL xs ys) (h : DC P f ys H Q) : DC P f xs H Q := by
  intro w β F vs hk hr
  refine h w β F vs hk ⟨by rw [hr.1]; exact hs.1, fun i v y hv hy => ?_⟩
  have hi : i < xs.length := by rw [hs.1]; exact lt_of_get hy
  exact hs.2 i _ y (List.getElem?_eq_getElem hi) hy _ _ (hr.2 i v _ hv (List.getElem?_eq_getElem hi))

theorem DP.sub {P : Program} {f : FuncId} {xs ys : List V} {Q : V → Prop} (hs : V.subL xs ys) (h : DP P f ys Q) : DP P f xs Q := DC.sub hs h

/-! Calls whose sequel stays as it is until the call is met. -/
class Fix {α : Type} (x : α) where
instance {α : Type} (x : α) : Fix x := ⟨⟩

def DPf (P : Program) (f : FuncId) (xs : List V) (Q : V → Prop) [Fix Q] : Prop := DP P f xs Q
def DCf (P : Program) (f : FuncId) (xs : List V) (H : Heap) (Q : V → Heap → Prop) [Fix Q] : Prop := DC P f xs H Q
def WIf (P : Program) (c : C) (Q : Ex → St → Prop) (st : St) [Fix Q] : Prop := WI P c Q st

section
variable {P : Program} {d : Option Nat} {fv : Operand} {xs : List Operand} {k : St → Prop} {st : St} {f : FuncId} {fs cs : List V}
theorem call_f : I.vc P (.call d f xs) k st = (V.idsL (xs.map st.ev) = [] ∧ DPf P f (xs.map st.ev) (fun r => k (st.put d r))) := rfl
theorem callo_f (h : st.ev fv = .fn (.func f) fs cs) : I.vc P (.callo d fv xs) k st = (okFunc P f = true ∧ V.idsL (fs ++ xs.map st.ev ++ cs) = [] ∧ DCf P f (fs ++ xs.map st.ev ++ cs) [] (fun r H' => k ({ st with hp := st.hp ++ H'.map (O.ren (st.hp.length + ·)) }.put d (r.ren (st.hp.length + ·))))) := by
  simp only [I.vc, h]; rfl
theorem callo_fn : I.vc P (.callo d (.func f) xs) k st = (okFunc P f = true ∧ V.idsL (xs.map st.ev) = [] ∧ DCf P f (xs.map st.ev) [] (fun r H' => k ({ st with hp := st.hp ++ H'.map (O.ren (st.hp.length + ·)) }.put d (r.ren (st.hp.length + ·))))) := by
  rw [callo_f (f := f) (fs := []) (cs := []) rfl]; simp only [List.nil_append, List.append_nil]
theorem loop_f {c : C} {Q : Ex → St → Prop} : vc P (.loop c) Q st = WIf P (.loop c) Q st := rfl
end
end Go.Abs

/- A call of a function that is handed objects, by its constant. -/
namespace Go.Abs
attribute [local simp] I.vc sub merge place
theorem callm_fn {P : Program} {d : Option Nat} {f : FuncId} {xs : List Operand} {k : St → Prop} {st : St} : I.vc P (.callm d (.func f) xs) k st = (okFunc P f = true ∧ OkSel st.hp (clos st.hp 8 (addAll [] (V.idsL (xs.map st.ev)))) ∧
    DCf P f (V.renL (idx (clos st.hp 8 (addAll [] (V.idsL (xs.map st.ev))))) (xs.map st.ev)) (sub st.hp (clos st.hp 8 (addAll [] (V.idsL (xs.map st.ev))))) (fun r H' =>
      k ({ st with hp := merge st.hp (clos st.hp 8 (addAll [] (V.idsL (xs.map st.ev)))) H' }.put d (r.ren (back (clos st.hp 8 (addAll [] (V.idsL (xs.map st.ev)))) st.hp.length))))) := by
  simp only [I.vc, St.ev, List.nil_append, List.append_nil]; rfl
theorem calla_fn {P : Program} {ap : List Nat} {d : Option Nat} {f : FuncId} {xs : List Operand} {k : St → Prop} {st : St} : I.vc P (.calla ap d (.func f) xs) k st = (okFunc P f = true ∧ OkSel st.hp (clos st.hp 8 (addAll [] (V.idsL (xs.map st.ev)))) ∧
    (∀ t ∈ ap, ∀ k, (gt st.sl t).oid = some k → k ∉ clos st.hp 8 (addAll [] (V.idsL (xs.map st.ev)))) ∧
    DCf P f (V.renL (idx (clos st.hp 8 (addAll [] (V.idsL (xs.map st.ev))))) (xs.map st.ev)) (sub st.hp (clos st.hp 8 (addAll [] (V.idsL (xs.map st.ev))))) (fun r H' =>
      k ({ st with hp := merge st.hp (clos st.hp 8 (addAll [] (V.idsL (xs.map st.ev)))) H' }.put d (r.ren (back (clos st.hp 8 (addAll [] (V.idsL (xs.map st.ev)))) st.hp.length))))) := by
  simp only [I.vc, St.ev, List.nil_append, List.append_nil]; rfl
end Go.Abs

/- A state told otherwise; results told otherwise; nil or not. -/
namespace Go.Abs
set_option linter.unusedVariables false
attribute [local simp] I.vc sub merge place

section
variable {w : World} {β : Nat → Hd} {F : Nat → Prop} {H : Heap}

/-- An object's cells told otherwise. -/
theorem adv_cells {id : Nat} {refs refs' : List Nat} {rows rows' : List (List V)} (hk : HOK w.heap H β F) (hid : H[id]? = some (.mem false refs rows)) (hl : rows'.length = rows.length)
    (hrow : ∀ (i : Nat) (row' : List V), rows'[i]? = some row' → ∃ row, rows[i]? = some row ∧ row.length = row'.length ∧ ∀ (j : Nat) (x' : V), row'[j]? = some x' → ∃ x, row[j]? = some x ∧ ∀ v, RV ((cx w.heap H β F).only refs) v x → RV ((cx w.heap H β F).only refs') v x') :
    Adv F w H β w (H.set id (.mem false refs' rows')) β := by
  have hupd : upd β id (β id) = β := by funext k; unfold upd; split <;> simp_all
  obtain ⟨h1, h2, h3⟩ := hk.turn (hp' := w.heap) (o' := .mem false refs' rows') (h' := β id) hid (Nat.le_refl _) (fun _ _ _ => rfl)
    (fun b hb => by unfold ownsB at hb ⊢; rw [get_set hid, upd_same] at hb; rw [hid]; exact .inl hb)
    (by simp) (fun g' hg _ => by
      left; unfold hdOf at hg ⊢; rw [get_set hid, upd_same] at hg; rw [hid]; simp only at hg ⊢; rw [← hl]; exact hg)
    (fun hle => by
      rcases hk.ro id _ hid with hr | ⟨q1, q2, q3, q4, q5, cs, E, fr, q6, q7, q8, q9⟩
      · exact .inl ⟨hr.1, List.length_eq_zero_iff.1 (by rw [hl, hr.2.1]; rfl), hr.2.2⟩
      · refine .inr ⟨q1, by rw [hl]; exact q2, by rw [hl]; exact q3, fun i row' hi => ?_, by simp, cs, E, fr, q6, q7, q8, fun i row' hi hlo j x' hj => ?_⟩
        · obtain ⟨row, a1, a2, _⟩ := hrow i row' hi
          rw [← a2]; exact q4 i row a1
        · obtain ⟨row, a1, a2, a3⟩ := hrow i row' hi
          obtain ⟨x, b1, b2⟩ := a3 j x' hj
          obtain ⟨v, e1, e2, e3⟩ := q9 i row a1 hlo j x b1
          exact ⟨v, e1, e2, (b2 v e3).mono (hle.only _)⟩)
  rw [hupd] at h1 h2
  exact ⟨h1, h2, .refl _ _⟩
end


theorem Weak.refl (st : St) : Weak st st := ⟨rfl, fun _ h => h, Nat.le_refl _, fun w β F N a hR => ⟨β, ⟨hR.hok, .refl _, .refl _ _⟩, hR⟩⟩

/-! Results told otherwise; nil or not. -/

theorem V.sub.nul (es es' : Nat) : (V.nul es).sub (.view es' []) := fun c v h => by
  cases h with
  | nul =>
    rename_i ad
    cases ad with
    | none => exact .nilv
    | some ad =>
      have := RV.view (c := c) (es := es') (rows := []) (ad := ad) (cap := 0) (fun _ _ => undef) (fun h => absurd rfl h) (Nat.le_refl _) (fun i row h => by simp at h) (fun i row h => by simp at h) (fun i row h => by simp at h)
      exact this
end Go.Abs

/- Objects that own what their cells' slices lie in: taken apart, put together. -/
namespace Go.Abs
set_option linter.unusedVariables false

mutual
def Ce.ids : Ce → List Nat
  | .v x => x.ids
  | .n _ rows => Ce.idsR rows
def Ce.idsL : List Ce → List Nat
  | [] => []
  | x :: l => x.ids ++ Ce.idsL l
def Ce.idsR : List (List Ce) → List Nat
  | [] => []
  | r :: l => Ce.idsL r ++ Ce.idsR l
end

theorem Ce.idsL_mem {l : List Ce} {j k : Nat} {x : Ce} (h : l[j]? = some x) (hk : k ∈ x.ids) : k ∈ Ce.idsL l := by
  induction l generalizing j with
  | nil => simp at h
  | cons y l ih =>
    simp only [Ce.idsL, List.mem_append]
    cases j with
    | zero => simp at h; subst h; exact .inl hk
    | succ j => exact .inr (ih (by simpa using h))
theorem Ce.idsR_mem {l : List (List Ce)} {i k : Nat} {r : List Ce} (h : l[i]? = some r) (hk : k ∈ Ce.idsL r) : k ∈ Ce.idsR l := by
  induction l generalizing i with
  | nil => simp at h
  | cons y l ih =>
    simp only [Ce.idsR, List.mem_append]
    cases i with
    | zero => simp at h; subst h; exact .inl hk
    | succ i => exact .inr (ih (by simpa using h))

theorem only_sub {c : Cx} {refs refs' : List Nat} {v : Value} {x : V} (h : RV (c.only refs) v x) (hs : ∀ k ∈ x.ids, k ∈ refs') : RV (c.only refs') v x :=
  (h.onlyOf refs' hs).mono ⟨Nat.le_refl _, fun _ _ hn => ⟨rfl, hn⟩, fun k hl => ⟨hl.1, hl.2.2⟩, fun _ _ _ e => .inl e⟩

theorem TR.refs {c : Cx} {refs refs' : List Nat} {S : Nat → Prop} {u : Value} {x : Ce} (h : TR c refs S u x) (hs : ∀ k ∈ x.ids, k ∈ refs') : TR c refs' S u x := by
  induction h with
  | v h1 h => exact .v h1 (only_sub h fun k hk => hs k (by simpa only [Ce.ids] using hk))
  | nil => exact .nil
  | n had cs E g T hb hcap hsz hlen hg hr hT hS hd hd2 ih =>
    exact .n had cs E g T hb hcap hsz hlen hg (fun i row hi j x hj => ih i row hi j x hj fun k hk => hs k (by simp only [Ce.ids]; exact Ce.idsR_mem hi (Ce.idsL_mem hj hk))) hT hS hd hd2

theorem TR.inv {c : Cx} {refs : List Nat} {S : Nat → Prop} {ad : Addr} {n cap es : Nat} {rows : List (List Ce)} (h : TR c refs S (.slice (some ad) n cap) (.n es rows)) (hne : rows ≠ [] ∨ ∃ b, S b) :
    ∃ (b o : Nat) (cs : Array Value) (E : TypeId) (g : Nat → Nat → Value) (T : Nat → Nat → Nat → Prop), (0 < cap → ad = ⟨b, o, none⟩) ∧
      c.hp[b]? = some (.cells cs E (0, 0)) ∧ rows.length ≤ cap ∧ o + cap * es ≤ cs.size ∧ (∀ (i : Nat) (row : List Ce), rows[i]? = some row → row.length = es) ∧
      (∀ (i : Nat) (row : List Ce), rows[i]? = some row → ∀ (j : Nat) (x : Ce), row[j]? = some x → cs[o + i * es + j]? = some (g i j)) ∧
      (∀ (i : Nat) (row : List Ce), rows[i]? = some row → ∀ (j : Nat) (x : Ce), row[j]? = some x → TR c refs (T i j) (g i j) x) ∧
      (∀ i j k, T i j k → ∃ row x, rows[i]? = some row ∧ row[j]? = some x) ∧
      (∀ k, S k ↔ k = b ∨ ∃ i j, T i j k) ∧ (∀ i j, ¬ T i j b) ∧ (∀ i j i' j' k, T i j k → T i' j' k → i = i' ∧ j = j') := by
  cases h with
  | nil => exact (hne.elim (fun e => e rfl) fun ⟨_, e⟩ => e).elim
  | n had cs E g T hb hcap hsz hlen hg hr hT hS hd hd2 => exact ⟨_, _, cs, E, g, T, had, hb, hcap, hsz, hlen, hg, hr, hT, hS, hd, hd2⟩

theorem TR.val {c : Cx} {refs : List Nat} {S : Nat → Prop} {u : Value} {x : V} (h : TR c refs S u (.v x)) : RV (c.only refs) u x := by
  cases h with
  | v h1 h => exact h

/-- From one heap to another, in the same memory. -/
def Step (xs : List V) (H H' : Heap) : Prop :=
  ∀ (w : World) (β : Nat → Hd) (F : Nat → Prop) (vs : Array Value), HOK w.heap H β F → RVs (cx w.heap H β F) vs xs → ∃ β', Adv F w H β w H' β'

theorem Step.refl (xs : List V) (H : Heap) : Step xs H H := fun w β F vs hk hr => ⟨β, hk, .refl _, .refl _ _⟩

theorem RVs.mono {c c' : Cx} {vs : Array Value} {xs : List V} (h : RVs c vs xs) (hc : c.le c') : RVs c' vs xs := ⟨h.1, fun i v x hv hx => (h.2 i v x hv hx).mono hc⟩

theorem Step.trans {xs : List V} {H H' H'' : Heap} (h : Step xs H H') (k : Step xs H' H'') : Step xs H H'' := fun w β F vs hk hr => by
  obtain ⟨β', a⟩ := h w β F vs hk hr
  obtain ⟨β'', b⟩ := k w β' F vs a.hok (hr.mono a.le)
  exact ⟨β'', a.trans b⟩

theorem DC.pre {P : Program} {f : FuncId} {xs : List V} {H H1 : Heap} {Q : V → Heap → Prop} (hs : Step xs H H1) (h : DC P f xs H1 Q) : DC P f xs H Q := fun w β F vs hk hr => by
  obtain ⟨β', a⟩ := hs w β F vs hk hr
  refine (h w β' F vs a.hok (hr.mono a.le)).mono fun e w' ⟨r, x, H', β2, h1, h2, h3, h4⟩ => ⟨r, x, H', β2, h1, a.trans h2, h3, h4⟩

theorem RVs.cons' {c : Cx} {v : Value} {x : V} {vs : Array Value} {xs : List V} (h : RV c v x) (hs : RVs c vs xs) : RVs c (#[v] ++ vs) (x :: xs) := by
  refine ⟨by simp [hs.1]; omega, fun i u y h1 h2 => ?_⟩
  cases i with
  | zero => simp [Array.getElem?_append] at h1 h2; subst h1; subst h2; exact h
  | succ i =>
    rw [Array.getElem?_append, if_neg (by simp)] at h1
    exact hs.2 i u y (by simpa using h1) (by simpa using h2)

theorem DC.post {P : Program} {f : FuncId} {xs : List V} {H : Heap} {Q Q' : V → Heap → Prop} (h : DC P f xs H Q) (hq : ∀ x H1, Q x H1 → ∃ H2, Step (x :: xs) H1 H2 ∧ Q' x H2) : DC P f xs H Q' := fun w β F vs hk hr =>
  (h w β F vs hk hr).mono fun e w' ⟨r, x, H', β2, h1, h2, h3, h4⟩ => by
    obtain ⟨H2, hs, hQ⟩ := hq x H' h4
    obtain ⟨β3, a⟩ := hs w' β2 F _ h2.hok (RVs.cons' h3 (hr.mono h2.le))
    exact ⟨r, x, H2, β3, h1, h2.trans a, h3.mono a.le, hQ⟩

abbrev Hd.ws (h : Hd) (S : Nat → Prop) : Hd := ⟨h.b, h.o, h.cap, h.es, h.lo, h.nil, h.tot, S⟩

/-- Rows without slices of their own. -/
def flatC (rows : List (List V)) : List (List Ce) := rows.map fun r => r.map Ce.v

section
variable {w : World} {β : Nat → Hd} {F : Nat → Prop} {H : Heap}

end
end Go.Abs

namespace Go.Abs
set_option linter.unusedVariables false

theorem TR.congr {c : Cx} {refs : List Nat} {S S' : Nat → Prop} {u : Value} {x : Ce} (h : TR c refs S u x) (hs : ∀ k, S k ↔ S' k) : TR c refs S' u x := by
  have : S = S' := funext fun k => propext (hs k)
  exact this ▸ h

theorem TR.cell {c : Cx} {refs : List Nat} {S : Nat → Prop} {ad : Addr} {n cap es i j : Nat} {rows : List (List Ce)} {row : List Ce} {x : Ce} (h : TR c refs S (.slice (some ad) n cap) (.n es rows)) (hi : rows[i]? = some row) (hj : row[j]? = some x) :
    ∃ u Sx, TR c refs Sx u x ∧ (∀ k, Sx k → S k) ∧ (∀ b o, (0 < cap → ad = ⟨b, o, none⟩) → rows ≠ [] → ¬ Sx b ∧ S b) ∧ ∀ (c' : Cx) (refs' : List Nat), c'.hp = c.hp → (∀ S u x, TR c refs S u x → TR c' refs' S u x) → ∀ (y : Ce) (Sy : Nat → Prop), TR c' refs' Sy u y → (∀ k, Sy k → S k → Sx k) → TR c' refs' (fun k => (S k ∧ ¬ Sx k) ∨ Sy k) (.slice (some ad) n cap) (.n es (rows.set i (row.set j y))) := by
  have hn : n = rows.length := by cases h <;> rfl
  subst hn
  obtain ⟨b, o, cs, E, g, T, had, hb, hcap, hsz, hlen, hg, hr, hT, hS, hd, hd2⟩ := h.inv (.inl (by rintro rfl; simp at hi))
  refine ⟨g i j, T i j, hr i row hi j x hj, fun k hk => (hS k).2 (.inr ⟨i, j, hk⟩), fun b' o' h1 h2 => ?_, fun c' refs' hhp hup y Sy hy hdis => ?_⟩
  · have hc : 0 < cap := by cases rows with
      | nil => exact absurd rfl h2
      | cons => exact Nat.lt_of_lt_of_le (by simp) hcap
    have e := (h1 hc).symm.trans (had hc)
    injection e with e
    subst e
    exact ⟨hd i j, (hS _).2 (.inl rfl)⟩
  · have hl : (rows.set i (row.set j y)).length = rows.length := List.length_set
    rw [← hl]
    have key : ∀ i' row', (rows.set i (row.set j y))[i']? = some row' → ∀ j' x', row'[j']? = some x' → (i' = i ∧ j' = j ∧ x' = y) ∨ (¬ (i' = i ∧ j' = j) ∧ ∃ r0, rows[i']? = some r0 ∧ r0[j']? = some x') := by
      intro i' row' h1 j' x' h2
      by_cases hii : i' = i
      · subst hii
        rw [get_set hi] at h1
        cases h1
        by_cases hjj : j' = j
        · subst hjj
          rw [get_set hj] at h2
          cases h2
          exact .inl ⟨rfl, rfl, rfl⟩
        · rw [getElem?_set_ne' hjj] at h2
          exact .inr ⟨fun e => hjj e.2, row, hi, h2⟩
      · rw [getElem?_set_ne' hii] at h1
        exact .inr ⟨fun e => hii e.1, row', h1, h2⟩
    refine .n had cs E g (fun i' j' k => if i' = i ∧ j' = j then Sy k else T i' j' k) (hhp ▸ hb) (by omega) hsz (fun i' row' h1 => ?_) (fun i' row' h1 j' x' h2 => ?_) (fun i' row' h1 j' x' h2 => ?_) (fun i' j' k h1 => ?_) (fun k => ⟨fun h1 => ?_, fun h1 => ?_⟩) (fun i' j' h1 => ?_) fun i1 j1 i2 j2 k h1 h2 => ?_
    · by_cases hii : i' = i
      · subst hii
        rw [get_set hi] at h1
        cases h1
        rw [List.length_set]; exact hlen _ _ hi
      · rw [getElem?_set_ne' hii] at h1
        exact hlen _ _ h1
    · rcases key i' row' h1 j' x' h2 with ⟨rfl, rfl, rfl⟩ | ⟨_, r0, h3, h4⟩
      · exact hg _ _ hi _ _ hj
      · exact hg _ _ h3 _ _ h4
    · rcases key i' row' h1 j' x' h2 with ⟨rfl, rfl, rfl⟩ | ⟨h5, r0, h3, h4⟩
      · simpa using hy
      · have : (fun k => if i' = i ∧ j' = j then Sy k else T i' j' k) = T i' j' := by funext k; rw [if_neg h5]
        rw [this]
        exact hup _ _ _ (hr _ _ h3 _ _ h4)
    · by_cases hij : i' = i ∧ j' = j
      · obtain ⟨rfl, rfl⟩ := hij
        exact ⟨row.set j' y, y, get_set hi, get_set hj⟩
      · rw [if_neg hij] at h1
        obtain ⟨r0, x0, h2, h3⟩ := hT _ _ _ h1
        by_cases hii : i' = i
        · subst hii
          rw [hi] at h2; cases h2
          have hjj : j' ≠ j := fun e => hij ⟨rfl, e⟩
          exact ⟨_, x0, get_set hi, by rw [getElem?_set_ne' hjj]; exact h3⟩
        · exact ⟨r0, x0, by rw [getElem?_set_ne' hii]; exact h2, h3⟩
    · rcases h1 with ⟨h1, h2⟩ | h1
      · rcases (hS k).1 h1 with h3 | ⟨i', j', h3⟩
        · exact .inl h3
        · refine .inr ⟨i', j', ?_⟩
          have : ¬ (i' = i ∧ j' = j) := by rintro ⟨rfl, rfl⟩; exact h2 h3
          rw [if_neg this]; exact h3
      · exact .inr ⟨i, j, by rw [if_pos ⟨rfl, rfl⟩]; exact h1⟩
    · rcases h1 with rfl | ⟨i', j', h1⟩
      · exact .inl ⟨(hS _).2 (.inl rfl), hd _ _⟩
      · by_cases hij : i' = i ∧ j' = j
        · rw [if_pos hij] at h1; exact .inr h1
        · rw [if_neg hij] at h1
          exact .inl ⟨(hS _).2 (.inr ⟨_, _, h1⟩), fun e => hij (hd2 _ _ _ _ _ h1 e)⟩
    · by_cases hij : i' = i ∧ j' = j
      · rw [if_pos hij] at h1
        exact hd _ _ (hdis _ h1 ((hS _).2 (.inl rfl)))
      · rw [if_neg hij] at h1
        exact hd _ _ h1
    · by_cases h3 : i1 = i ∧ j1 = j <;> by_cases h4 : i2 = i ∧ j2 = j
      · exact ⟨h3.1.trans h4.1.symm, h3.2.trans h4.2.symm⟩
      · rw [if_pos h3] at h1; rw [if_neg h4] at h2
        exact absurd (hd2 _ _ _ _ _ h2 (hdis _ h1 ((hS _).2 (.inr ⟨_, _, h2⟩)))) h4
      · rw [if_neg h3] at h1; rw [if_pos h4] at h2
        exact absurd (hd2 _ _ _ _ _ h1 (hdis _ h2 ((hS _).2 (.inr ⟨_, _, h1⟩)))) h3
      · rw [if_neg h3] at h1; rw [if_neg h4] at h2
        exact hd2 _ _ _ _ _ h1 h2

end Go.Abs

namespace Go.Abs
set_option linter.unusedVariables false
section
variable {w : World} {β : Nat → Hd} {F : Nat → Prop} {H : Heap}

end
end Go.Abs

namespace Go.Abs
set_option linter.unusedVariables false
section
variable {w : World} {β : Nat → Hd} {F : Nat → Prop} {H : Heap}

/-- A cell's slice by itself: how an object that lies so would lie. -/
theorem TR.alone {c : Cx} {refs : List Nat} {S : Nat → Prop} {u : Value} {es : Nat} {rows : List (List Ce)} (h : TR c refs S u (.n es rows)) :
    ∃ hd : Hd, hd.es = es ∧ hd.lo = 0 ∧ (hd.wt rows.length).slice 0 rows.length u ∧ (∀ b, (hd.nil = false ∧ (hd.b = b ∨ hd.sub b)) ↔ S b) ∧ RO c hd (.tree refs rows) := by
  cases h with
  | nil =>
    refine ⟨⟨0, 0, 0, es, 0, true, 0, noSub⟩, rfl, rfl, .inl ⟨rfl, ⟨_, rfl⟩, rfl⟩, fun b => ⟨?_, fun e => e.elim⟩, .inl ⟨rfl, rfl, rfl⟩⟩
    rintro ⟨e, _⟩
    cases e
  | n had cs E g T hb hcap hsz hlen hg hr hT hS hd hd2 =>
    rename_i ad b o cap
    refine ⟨⟨b, o, cap, es, 0, false, 0, fun k => S k ∧ k ≠ b⟩, rfl, rfl, .inr ⟨rfl, ad, by simp [Hd.wt], by simp [Hd.wt], fun hc => ?_⟩, fun k => ?_, .inr ⟨rfl, rfl, fun e => e.2 rfl, ?_, fun cs' E' fr' e => ?_⟩⟩
    · have := had (by simpa [Hd.wt] using hc)
      simp [Hd.wt, this]
    · constructor
      · rintro ⟨_, rfl | e⟩
        · exact (hS _).2 (.inl rfl)
        · exact e.1
      · intro e
        by_cases hkb : b = k
        · exact ⟨rfl, .inl hkb⟩
        · exact ⟨rfl, .inr ⟨e, fun e => hkb e.symm⟩⟩
    · refine (TR.n (ad := ⟨b, o, none⟩) (fun _ => rfl) cs E g T hb hcap hsz hlen hg hr hT hS hd hd2).congr fun k => ?_
      constructor
      · intro e
        by_cases hkb : b = k
        · exact .inl hkb
        · exact .inr ⟨e, fun e => hkb e.symm⟩
      · rintro (rfl | e)
        · exact (hS _).2 (.inl rfl)
        · exact e.1
    · rw [hb] at e; cases e; exact hsz

end
end Go.Abs

/- Contracts: what a call leaves that its caller has no use for. -/
namespace Go.Abs
set_option linter.unusedVariables false

theorem hok_trim {n : Nat} {F : Nat → Prop} {w : World} {β : Nat → Hd} {H : Heap} (hk : HOK w.heap H β F) :
    HOK w.heap ((H.take n).map (limO n)) β F ∧ (∀ id b, ownsB ((H.take n).map (limO n)) β id b → ownsB H β id b) ∧ (∀ id g, hdOf ((H.take n).map (limO n)) β id = some g → hdOf H β id = some g) ∧ (∀ id, id < n → liveIn H id → liveIn ((H.take n).map (limO n)) id) ∧
      ∀ refs : List Nat, (∀ i ∈ refs, i < n) → ((cx w.heap H β F).only refs).le ((cx w.heap ((H.take n).map (limO n)) β F).only refs) := by
  have hget : ∀ {id : Nat} {o : O}, ((H.take n).map (limO n))[id]? = some o → id < n ∧ ∃ o', H[id]? = some o' ∧ o = limO n o' := by
    intro id o h
    simp only [List.getElem?_map, Option.map_eq_some_iff] at h
    obtain ⟨o', h, rfl⟩ := h
    rw [List.getElem?_take] at h
    split at h
    · next hlt => exact ⟨hlt, o', h, rfl⟩
    · cases h
  have hown : ∀ id b, ownsB ((H.take n).map (limO n)) β id b → ownsB H β id b := by
    intro id b h
    unfold ownsB at h
    cases h1 : ((H.take n).map (limO n))[id]? with
    | none => rw [h1] at h; exact h.elim
    | some o =>
      obtain ⟨hlt, o', h2, rfl⟩ := hget h1
      rw [h1] at h
      unfold ownsB
      rw [h2]
      unfold limO at h
      split at h
      · next e =>
        split at e
        · injection e with e; subst e; exact h
        · cases e
      · next e =>
        split at e
        · injection e with e; subst e; exact h
        · cases e
      · next e =>
        split at e
        · injection e with e; subst e; exact h
        · cases e
      · next e =>
        split at e
        · injection e with e; subst e; exact h
        · cases e
      · exact h.elim
  have hhd : ∀ id g, hdOf ((H.take n).map (limO n)) β id = some g → hdOf H β id = some g := by
    intro id g h
    unfold hdOf at h
    cases h1 : ((H.take n).map (limO n))[id]? with
    | none => rw [h1] at h; cases h
    | some o =>
      obtain ⟨hlt, o', h2, rfl⟩ := hget h1
      rw [h1] at h
      unfold hdOf
      rw [h2]
      unfold limO at h
      split at h
      · next e =>
        split at e
        · injection e with e; subst e; exact h
        · cases e
      · next e =>
        split at e
        · injection e with e; subst e; exact h
        · cases e
      · next e =>
        split at e
        · injection e with e; subst e; exact h
        · cases e
      · next e =>
        split at e
        · injection e with e; subst e; exact h
        · cases e
      · cases h
  have hlive : ∀ id, id < n → liveIn H id → liveIn ((H.take n).map (limO n)) id := by
    rintro id hlt ⟨o, h1, h2⟩
    refine ⟨limO n o, ?_, ?_⟩
    · simp [List.getElem?_take, hlt, h1]
    · unfold limO; split
      · exact h2
      · intro e; cases e
  have hle : ∀ refs : List Nat, (∀ i ∈ refs, i < n) → ((cx w.heap H β F).only refs).le ((cx w.heap ((H.take n).map (limO n)) β F).only refs) := by
    intro refs hrefs
    refine ⟨Nat.le_refl _, fun b hb hno => ⟨rfl, fun e => hno ?_⟩, fun id hl => ⟨hl.1, hlive id (hrefs id hl.1) hl.2⟩, fun id g' hl e => .inl (hhd id g' e)⟩
    rcases e with ⟨id, e⟩ | e
    · exact .inl ⟨id, hown id b e⟩
    · exact .inr e
  refine ⟨⟨fun id o h => ?_, fun id id' b h1 h2 => hk.one id id' b (hown _ _ h1) (hown _ _ h2), fun b hb => ⟨(hk.far b hb).1, fun ⟨id, e⟩ => (hk.far b hb).2 ⟨id, hown _ _ e⟩⟩⟩, hown, hhd, hlive, hle⟩
  · obtain ⟨hlt, o', h2, rfl⟩ := hget h
    have hro := hk.ro id o' h2
    unfold limO
    split
    · next hrefs =>
      have hrefs' : ∀ i ∈ o'.refs, i < n := fun i hi => by simpa using List.all_eq_true.1 hrefs i hi
      have hownb : ∀ b, (cx w.heap ((H.take n).map (limO n)) β F).own b → (cx w.heap H β F).own b := by
        rintro b (⟨id, e⟩ | e)
        · exact .inl ⟨id, hown id b e⟩
        · exact .inr e
      cases o' with
      | res => trivial
      | dead => trivial
      | sit s pos => exact hro
      | tree refs rows =>
        rcases hro with hro | ⟨q1, q2, q3, q4, q5⟩
        · exact .inl hro
        · exact .inr ⟨q1, q2, q3, q4.mono (hle refs hrefs') fun _ _ => rfl, q5⟩
      | mem fz refs rows =>
        rcases hro with hro | ⟨q1, q2, q3, q4, q5, cs, E, fr, q6, q7, q8, q9⟩
        · exact .inl hro
        · refine .inr ⟨q1, q2, q3, q4, fun e k => q5 e (hownb _ k), cs, E, fr, q6, q7, q8, fun i row hi hlo j x hj => ?_⟩
          obtain ⟨v, e1, e2, e3⟩ := q9 i row hi hlo j x hj
          exact ⟨v, e1, e2, e3.mono (hle refs hrefs')⟩
      | map fz refs es =>
        obtain ⟨q1, ents, clock, q2, q3, q4, q5, q6⟩ := hro
        exact ⟨fun e k => q1 e (hownb _ k), ents, clock, q2, q3, q4, q5, fun i e x he hx => ⟨(q6 i e x he hx).1.mono (hle [] (by simp)), (q6 i e x he hx).2.mono (hle refs hrefs')⟩⟩
    · trivial

theorem DC.trim {P : Program} {f : FuncId} {xs : List V} {H : Heap} {Q Q' : V → Heap → Prop} (h : DC P f xs H Q)
    (hq : ∀ x H', Q x H' → ∃ n, H.length ≤ n ∧ (∀ i ∈ x.ids, i < n) ∧ Q' x ((H'.take n).map (limO n))) : DC P f xs H Q' := fun w β F vs hk hr =>
  (h w β F vs hk hr).mono fun e w' ⟨r, x, H', β2, h1, h2, h3, h4⟩ => by
    obtain ⟨n, hn, hx, hQ⟩ := hq x H' h4
    obtain ⟨t1, hown, hhd, hlive, hle⟩ := hok_trim (n := n) h2.hok
    refine ⟨r, x, _, β2, h1, ⟨t1, ⟨h2.le.size, fun b hb hno => ⟨(h2.le.same b hb hno).1, fun e => (h2.le.same b hb hno).2 (e.imp (fun ⟨id, e⟩ => ⟨id, hown _ _ e⟩) fun e => e)⟩, fun id hl => ?_, fun id g' hl e => h2.le.hd id g' hl (hhd _ _ e)⟩, h2.ext⟩, ?_, hQ⟩
    · have hlt : id < H.length := by obtain ⟨o, e, _⟩ := hl; exact lt_of_get e
      exact hlive id (Nat.lt_of_lt_of_le hlt hn) (h2.le.live id hl)
    · exact ((h3.onlyOf _ fun i hi => hi).mono (hle _ hx)).up
end Go.Abs

namespace Go.Abs
set_option linter.unusedVariables false
section
variable {w : World} {β : Nat → Hd} {F : Nat → Prop} {H : Heap}

abbrev nilS : V := .a (.slice none 0 0)

end
end Go.Abs
namespace Go.Abs
end Go.Abs

namespace Go.Abs
set_option linter.unusedVariables false

/-- A child: its number, its cells' size, what it may name, its rows. -/
structure Kid where
  id : Nat
  es : Nat
  refs : List Nat
  L : List (List Ce)

def Kid.own (c : Kid) : List Ce := [.v (.own c.id c.es 0 c.L.length c.L.length)]
end Go.Abs

namespace Go.Abs
set_option linter.unusedVariables false

end Go.Abs

namespace Go.Abs
set_option linter.unusedVariables false

/-- A slice cut short lies in no more blocks. -/
theorem TR.take {c : Cx} {refs : List Nat} {S : Nat → Prop} {ad : Addr} {n cap es : Nat} {rows : List (List Ce)} (l : Nat) (h : TR c refs S (.slice (some ad) n cap) (.n es rows)) (hl : l ≤ rows.length) :
    ∃ S', (∀ k, S' k → S k) ∧ TR c refs S' (.slice (some ad) l cap) (.n es (rows.take l)) := by
  have hn : n = rows.length := by cases h <;> rfl
  subst hn
  by_cases hne : rows = []
  · subst hne
    obtain rfl : l = 0 := by simpa using hl
    exact ⟨S, fun _ h => h, by simpa using h⟩
  obtain ⟨b, o, cs, E, g, T, had, hb, hcap, hsz, hlen, hg, hr, hT, hS, hd, hd2⟩ := h.inv (.inl hne)
  have hlt : (rows.take l).length = l := by rw [List.length_take]; omega
  have hget : ∀ {i : Nat} {row : List Ce}, (rows.take l)[i]? = some row → i < l ∧ rows[i]? = some row := fun {i row} h => by
    rw [List.getElem?_take] at h
    split at h
    · next q => exact ⟨q, h⟩
    · cases h
  refine ⟨fun k => k = b ∨ ∃ i j, i < l ∧ T i j k, fun k hk => (hS k).2 (hk.imp id fun ⟨i, j, _, e⟩ => ⟨i, j, e⟩), ?_⟩
  have := TR.n (c := c) (refs := refs) (S := fun k => k = b ∨ ∃ i j, i < l ∧ T i j k) had cs E g (fun i j k => i < l ∧ T i j k) hb (by rw [hlt]; omega) hsz (fun i row h => hlen i row (hget h).2) (fun i row h j x hx => hg i row (hget h).2 j x hx)
    (fun i row h j x hx => (hr i row (hget h).2 j x hx).congr fun k => ⟨fun e => ⟨(hget h).1, e⟩, fun e => e.2⟩)
    (fun i j k h => by
      obtain ⟨row, x, h1, h2⟩ := hT i j k h.2
      exact ⟨row, x, by rw [List.getElem?_take, if_pos h.1]; exact h1, h2⟩)
    (fun k => Iff.rfl) (fun i j h => hd i j h.2) (fun i j i' j' k h h' => hd2 i j i' j' k h.2 h'.2)
  rw [hlt] at this
  exact this
end Go.Abs

namespace Go.Abs
set_option linter.unusedVariables false
section
variable {w : World} {β : Nat → Hd} {F : Nat → Prop} {H : Heap}

end
end Go.Abs

/- Short names of the commonest steps. -/
namespace Go.Abs.G
abbrev zm (j d : Nat) (s : Nat) : It := .o j (.lt (some d) (.mov (.tmp s)))
abbrev ym (j g : Nat) (w : Bool) (d : Nat) (s : Nat) : It := .gd j g w (some d) (.lt (some d) (.mov (.tmp s)))
abbrev zk (j d : Nat) (n : Int) : It := .o j (.lt (some d) (.mov (.const (.int .i64 n))))
abbrev zb (j d : Nat) (b : Bool) : It := .o j (.lt (some d) (.mov (.const (.bool b))))
abbrev yb (j g : Nat) (w : Bool) (d : Nat) (b : Bool) : It := .gd j g w (some d) (.lt (some d) (.mov (.const (.bool b))))
abbrev zl (j d : Nat) (n s : Nat) : It := .o j (.lt (some d) (.ld false n (.tmp s)))
abbrev yl (j g : Nat) (w : Bool) (d : Nat) (n s : Nat) : It := .gd j g w (some d) (.lt (some d) (.ld false n (.tmp s)))
abbrev zL (j d : Nat) (n s : Nat) : It := .o j (.lt (some d) (.ld true n (.tmp s)))
abbrev yL (j g : Nat) (w : Bool) (d : Nat) (n s : Nat) : It := .gd j g w (some d) (.lt (some d) (.ld true n (.tmp s)))
abbrev zf (j d : Nat) (s n : Nat) : It := .o j (.lt (some d) (.fad (.tmp s) n))
abbrev yf (j g : Nat) (w : Bool) (d : Nat) (s n : Nat) : It := .gd j g w (some d) (.lt (some d) (.fad (.tmp s) n))
abbrev zc (j d : Nat) (s : Nat) : It := .o j (.lt (some d) (.nilc (.tmp s)))
abbrev yc (j g : Nat) (w : Bool) (d : Nat) (s : Nat) : It := .gd j g w (some d) (.lt (some d) (.nilc (.tmp s)))
abbrev zx (j d : Nat) (n s t : Nat) : It := .o j (.lt (some d) (.ixS n (.tmp s) (.tmp t)))
abbrev yx (j g : Nat) (w : Bool) (d : Nat) (n s t : Nat) : It := .gd j g w (some d) (.lt (some d) (.ixS n (.tmp s) (.tmp t)))
abbrev zn (j d : Nat) (s : Nat) : It := .o j (.lt (some d) (.lenSl (.tmp s)))
abbrev yn (j g : Nat) (w : Bool) (d : Nat) (s : Nat) : It := .gd j g w (some d) (.lt (some d) (.lenSl (.tmp s)))
abbrev zq (j d : Nat) (s : Nat) : It := .o j (.lt (some d) (.un .not (.tmp s)))
abbrev yq (j g : Nat) (w : Bool) (d : Nat) (s : Nat) : It := .gd j g w (some d) (.lt (some d) (.un .not (.tmp s)))
abbrev zp (j d : Nat) (s : Nat) (b : Bool) (t : Nat) : It := .o j (.lt (some d) (.pick (.tmp s) (.const (.bool b)) (.tmp t)))
abbrev yp (j g : Nat) (w : Bool) (d : Nat) (s : Nat) (b : Bool) (t : Nat) : It := .gd j g w (some d) (.lt (some d) (.pick (.tmp s) (.const (.bool b)) (.tmp t)))
abbrev zr (j d : Nat) (s t : Nat) (b : Bool) : It := .o j (.lt (some d) (.pick (.tmp s) (.tmp t) (.const (.bool b))))
abbrev yr (j g : Nat) (w : Bool) (d : Nat) (s t : Nat) (b : Bool) : It := .gd j g w (some d) (.lt (some d) (.pick (.tmp s) (.tmp t) (.const (.bool b))))
abbrev za (j d : Nat) (o : BinOp) (s t : Nat) : It := .o j (.lt (some d) (.bin o (.tmp s) (.tmp t)))
abbrev ya (j g : Nat) (w : Bool) (d : Nat) (o : BinOp) (s t : Nat) : It := .gd j g w (some d) (.lt (some d) (.bin o (.tmp s) (.tmp t)))
abbrev zd (j d : Nat) (o : BinOp) (s : Nat) (n : Int) : It := .o j (.lt (some d) (.bin o (.tmp s) (.const (.int .i64 n))))
abbrev yd (j g : Nat) (w : Bool) (d : Nat) (o : BinOp) (s : Nat) (n : Int) : It := .gd j g w (some d) (.lt (some d) (.bin o (.tmp s) (.const (.int .i64 n))))
abbrev ze (j d : Nat) (s n : Nat) : It := .o j (.lt (some d) (.ext (.tmp s) n))
abbrev zy (j d : Nat) (b : Bool) (s t : Nat) : It := .o j (.lt (some d) (.eqB b (.tmp s) (.tmp t)))
abbrev yy (j g : Nat) (w : Bool) (d : Nat) (b : Bool) (s t : Nat) : It := .gd j g w (some d) (.lt (some d) (.eqB b (.tmp s) (.tmp t)))
abbrev rk (l : List Nat) : RA := { gs := [], keep := some l }
abbrev rp (l : List Nat) (a : List (Nat × List Nat)) : RA := { gs := [], keep := some l, aps := a }
abbrev ro (l : List Nat) (o : List Nat) : RA := { gs := [], keep := some l, ord := o }
abbrev rq (l : List Nat) (o : List Nat) (a : List (Nat × List Nat)) : RA := { gs := [], keep := some l, ord := o, aps := a }
end Go.Abs.G

namespace Go.Abs.G
open Go.Proofs
set_option linter.unusedVariables false
def slices_Sort_Lint_int.id : FuncId := 128
@[simp] theorem slices_Sort_Lint_int.okf : okFunc Tryz.prog slices_Sort_Lint_int.id = true := by kernel_rfl
def slices_pdqsortOrdered_int.id : FuncId := 135
@[simp] theorem slices_pdqsortOrdered_int.okf : okFunc Tryz.prog slices_pdqsortOrdered_int.id = true := by kernel_rfl
def math_bits_Len.id : FuncId := 136
@[simp] theorem math_bits_Len.okf : okFunc Tryz.prog math_bits_Len.id = true := by kernel_rfl
def slices_insertionSortOrdered_int.id : FuncId := 137
@[simp] theorem slices_insertionSortOrdered_int.okf : okFunc Tryz.prog slices_insertionSortOrdered_int.id = true := by kernel_rfl
def slices_heapSortOrdered_int.id : FuncId := 138
@[simp] theorem slices_heapSortOrdered_int.okf : okFunc Tryz.prog slices_heapSortOrdered_int.id = true := by kernel_rfl
def slices_breakPatternsOrdered_int.id : FuncId := 139
@[simp] theorem slices_breakPatternsOrdered_int.okf : okFunc Tryz.prog slices_breakPatternsOrdered_int.id = true := by kernel_rfl
def slices_choosePivotOrdered_int.id : FuncId := 140
@[simp] theorem slices_choosePivotOrdered_int.okf : okFunc Tryz.prog slices_choosePivotOrdered_int.id = true := by kernel_rfl
def slices_reverseRangeOrdered_int.id : FuncId := 141
@[simp] theorem slices_reverseRangeOrdered_int.okf : okFunc Tryz.prog slices_reverseRangeOrdered_int.id = true := by kernel_rfl
def slices_partialInsertionSortOrdered_int.id : FuncId := 142
@[simp] theorem slices_partialInsertionSortOrdered_int.okf : okFunc Tryz.prog slices_partialInsertionSortOrdered_int.id = true := by kernel_rfl
def cmp_Less_int.id : FuncId := 143
@[simp] theorem cmp_Less_int.okf : okFunc Tryz.prog cmp_Less_int.id = true := by kernel_rfl
def slices_partitionEqualOrdered_int.id : FuncId := 144
@[simp] theorem slices_partitionEqualOrdered_int.okf : okFunc Tryz.prog slices_partitionEqualOrdered_int.id = true := by kernel_rfl
def slices_partitionOrdered_int.id : FuncId := 145
@[simp] theorem slices_partitionOrdered_int.okf : okFunc Tryz.prog slices_partitionOrdered_int.id = true := by kernel_rfl
def math_bits_Len32.id : FuncId := 146
@[simp] theorem math_bits_Len32.okf : okFunc Tryz.prog math_bits_Len32.id = true := by kernel_rfl
def math_bits_Len64.id : FuncId := 147
@[simp] theorem math_bits_Len64.okf : okFunc Tryz.prog math_bits_Len64.id = true := by kernel_rfl
def slices_siftDownOrdered_int.id : FuncId := 148
@[simp] theorem slices_siftDownOrdered_int.okf : okFunc Tryz.prog slices_siftDownOrdered_int.id = true := by kernel_rfl
def slices_nextPowerOfTwo.id : FuncId := 149
@[simp] theorem slices_nextPowerOfTwo.okf : okFunc Tryz.prog slices_nextPowerOfTwo.id = true := by kernel_rfl
def slices_xorshift_Next.id : FuncId := 150
@[simp] theorem slices_xorshift_Next.okf : okFunc Tryz.prog slices_xorshift_Next.id = true := by kernel_rfl
def slices_medianAdjacentOrdered_int.id : FuncId := 151
@[simp] theorem slices_medianAdjacentOrdered_int.okf : okFunc Tryz.prog slices_medianAdjacentOrdered_int.id = true := by kernel_rfl
def slices_medianOrdered_int.id : FuncId := 152
@[simp] theorem slices_medianOrdered_int.okf : okFunc Tryz.prog slices_medianOrdered_int.id = true := by kernel_rfl
def cmp_isNaN_int.id : FuncId := 153
@[simp] theorem cmp_isNaN_int.okf : okFunc Tryz.prog cmp_isNaN_int.id = true := by kernel_rfl
def slices_order2Ordered_int.id : FuncId := 154
@[simp] theorem slices_order2Ordered_int.okf : okFunc Tryz.prog slices_order2Ordered_int.id = true := by kernel_rfl
-- slices.Sort[[]int,int]
def slices_Sort_Lint_int.ann : List (Nat × RA) := [(0, rk [0, 2]), (1, rp [] [(5, [1000000])])]
def slices_Sort_Lint_int.ir : C := .seq (.reg 0 [zm 0 3 0, zn 1 4 3, zm 2 2 4, .g (.keep [0, 2])]) (.reg 0 [zm 0 5 0, zm 1 6 2, zm 2 7 2, .o 3 (.lt (some 8) (.conv .u64 (.tmp 7))), .o 4 (.call (some 9) math_bits_Len.id [(.tmp 8)]), .o 5 (.callm (some 10) (.func slices_pdqsortOrdered_int.id) [(.tmp 5), (.const (.int .i64 0)), (.tmp 6), (.tmp 9)]), .g (.keep [])])
def slices_Sort_Lint_int.rs : List Rs := []
theorem slices_Sort_Lint_int.ok : isFn Tryz.prog slices_Sort_Lint_int.id 11 slices_Sort_Lint_int.ann slices_Sort_Lint_int.ir slices_Sort_Lint_int.rs := ⟨Tryz.f128, _, Tryz.func128, rfl, rfl, by kernel_rfl, by kernel_rfl⟩
-- slices.pdqsortOrdered[int]
def slices_pdqsortOrdered_int.ann : List (Nat × RA) := [(0, rk [0, 1, 2, 3, 8]), (1, rk [0, 1, 2, 3, 8, 9]), (2, rk [0, 1, 2, 3, 8, 9, 10]), (3, rk [0, 1, 2, 3, 8, 9, 10, 23]), (4, rp [] [(3, [1000000])]), (5, rk [0, 1, 2, 3, 8, 9, 10, 29]), (6, rp [] [(3, [1000000])]), (7, rk [0, 1, 2, 3, 8, 9, 10, 35]), (8, rp [0, 1, 2, 3, 8, 9, 10] [(3, [1000000])]), (9, rk [0, 1, 2, 3, 8, 9, 10]), (10, rp [0, 1, 2, 3, 8, 9, 10, 11, 12] [(3, [1000000])]), (11, rk [0, 1, 2, 3, 8, 9, 10, 11, 12, 50]), (12, rp [0, 1, 2, 3, 8, 9, 10, 11] [(3, [1000000])]), (13, rk [0, 1, 2, 3, 8, 9, 10, 11]), (14, rk [0, 1, 2, 3, 8, 9, 10, 11, 12]), (15, rk [0, 1, 2, 3, 8, 9, 10, 11, 68]), (16, rp [0, 1, 2, 3, 8, 9, 10, 11, 72] [(3, [1000000])]), (17, ro [0, 1, 2, 3, 8, 9, 10, 11, 87] [0, 1, 2, 3, 4, 5, 6, 7, 8, 9, 10, 11, 12, 13, 14]), (18, rp [0, 2, 3, 8, 9, 13] [(4, [1000000])]), (19, rk [0, 1, 2, 3, 8, 9]), (20, rp [0, 1, 2, 3, 10, 14, 15] [(4, [1000000])]), (21, rk [0, 1, 2, 3, 9, 10, 14]), (22, rk [0, 1, 2, 3, 9, 10, 14, 16, 17]), (23, rk [0, 1, 2, 3, 9, 14, 16, 17, 18]), (24, rk [0, 1, 2, 3, 9, 14, 16, 17, 18, 113]), (25, rk [0, 1, 2, 3, 8, 9, 14]), (26, rp [0, 2, 3, 8, 9, 14] [(4, [1000000])]), (27, rk [0, 1, 2, 3, 8, 9]), (28, rk [0, 1, 2, 3, 8, 9, 14]), (29, rp [0, 1, 3, 8, 9, 14] [(5, [1000000])]), (30, rk [0, 1, 2, 3, 8, 9])]
def slices_pdqsortOrdered_int.b0 : C := .block 1 (.seq (.reg 0 [zm 0 19 2, zm 1 20 1, za 2 21 .sub 19 20, zm 3 10 21, .g (.keep [0, 1, 2, 3, 8, 9, 10])]) (.seq (.seq (.reg 0 [zm 0 22 10, zd 1 23 .leq 22 12, .g (.keep [0, 1, 2, 3, 8, 9, 10, 23])]) (.cond (.tmp 23) (.seq (.reg 0 [zm 0 24 0, zm 1 25 1, zm 2 26 2, .o 3 (.callm (some 27) (.func slices_insertionSortOrdered_int.id) [(.tmp 24), (.tmp 25), (.tmp 26)]), .g (.keep [])]) (.ret)) (.skip))) (.seq (.seq (.reg 0 [zm 0 28 3, zd 1 29 .eql 28 0, .g (.keep [0, 1, 2, 3, 8, 9, 10, 29])]) (.cond (.tmp 29) (.seq (.reg 0 [zm 0 30 0, zm 1 31 1, zm 2 32 2, .o 3 (.callm (some 33) (.func slices_heapSortOrdered_int.id) [(.tmp 30), (.tmp 31), (.tmp 32)]), .g (.keep [])]) (.ret)) (.skip))) (.seq (.seq (.reg 0 [zm 0 34 8, zq 1 35 34, .g (.keep [0, 1, 2, 3, 8, 9, 10, 35])]) (.cond (.tmp 35) (.seq (.reg 0 [zm 0 36 0, zm 1 37 1, zm 2 38 2, .o 3 (.callm (some 39) (.func slices_breakPatternsOrdered_int.id) [(.tmp 36), (.tmp 37), (.tmp 38)]), .g (.keep [0, 1, 2, 3, 8, 9, 10])]) (.reg 0 [zm 0 40 3, zd 1 41 .sub 40 1, zm 2 3 41, .g (.keep [0, 1, 2, 3, 8, 9, 10])])) (.skip))) (.seq (.reg 0 [zm 0 43 0, zm 1 44 1, zm 2 45 2, .o 3 (.callm (some 46) (.func slices_choosePivotOrdered_int.id) [(.tmp 43), (.tmp 44), (.tmp 45)]), zm 4 42 46, ze 5 47 42 0, ze 6 48 42 1, zm 7 11 47, zm 8 12 48, .g (.keep [0, 1, 2, 3, 8, 9, 10, 11, 12])]) (.seq (.seq (.reg 0 [zm 0 49 12, zd 1 50 .eql 49 2, .g (.keep [0, 1, 2, 3, 8, 9, 10, 11, 12, 50])]) (.cond (.tmp 50) (.seq (.reg 0 [zm 0 51 0, zm 1 52 1, zm 2 53 2, .o 3 (.callm (some 54) (.func slices_reverseRangeOrdered_int.id) [(.tmp 51), (.tmp 52), (.tmp 53)]), .g (.keep [0, 1, 2, 3, 8, 9, 10, 11])]) (.seq (.reg 0 [zm 0 55 2, zd 1 56 .sub 55 1, zm 2 57 11, zm 3 58 1, za 4 59 .sub 57 58, za 5 60 .sub 56 59, zm 6 11 60, .g (.keep [0, 1, 2, 3, 8, 9, 10, 11])]) (.reg 0 [zk 0 12 1, .g (.keep [0, 1, 2, 3, 8, 9, 10, 11, 12])]))) (.skip))) (.seq (.seq (.reg 0 [zm 0 61 8, zm 1 62 61, ym 2 62 true 63 9, zr 3 64 62 63 false, zm 4 65 64, ym 5 65 true 66 12, yd 6 65 true 67 .eql 66 1, zr 7 68 65 67 false, .g (.keep [0, 1, 2, 3, 8, 9, 10, 11, 68])]) (.cond (.tmp 68) (.seq (.reg 0 [zm 0 69 0, zm 1 70 1, zm 2 71 2, .o 3 (.callm (some 72) (.func slices_partialInsertionSortOrdered_int.id) [(.tmp 69), (.tmp 70), (.tmp 71)]), .g (.keep [0, 1, 2, 3, 8, 9, 10, 11, 72])]) (.cond (.tmp 72) (.ret) (.skip))) (.skip))) (.seq (.seq (.reg 0 [zm 0 73 1, zd 1 74 .gtr 73 0, zm 2 75 74, ym 3 75 true 76 0, ym 4 75 true 77 1, yd 5 75 true 78 .sub 77 1, yx 6 75 true 79 1 76 78, yl 7 75 true 80 1 79, ym 8 75 true 81 0, ym 9 75 true 82 11, yx 10 75 true 83 1 81 82, yl 11 75 true 84 1 83, .gd 12 75 true (some 85) (.call (some 85) cmp_Less_int.id [(.tmp 80), (.tmp 84)]), yq 13 75 true 86 85, zr 14 87 75 86 false, .g (.keep [0, 1, 2, 3, 8, 9, 10, 11, 87])]) (.cond (.tmp 87) (.seq (.reg 0 [zm 0 88 0, zm 1 89 1, zm 2 90 2, zm 3 91 11, .o 4 (.callm (some 92) (.func slices_partitionEqualOrdered_int.id) [(.tmp 88), (.tmp 89), (.tmp 90), (.tmp 91)]), zm 5 13 92, .g (.keep [0, 2, 3, 8, 9, 13])]) (.seq (.reg 0 [zm 0 93 13, zm 1 1 93, .g (.keep [0, 1, 2, 3, 8, 9])]) (.exit 1))) (.skip))) (.seq (.reg 0 [zm 0 95 0, zm 1 96 1, zm 2 97 2, zm 3 98 11, .o 4 (.callm (some 99) (.func slices_partitionOrdered_int.id) [(.tmp 95), (.tmp 96), (.tmp 97), (.tmp 98)]), zm 5 94 99, ze 6 100 94 0, ze 7 101 94 1, zm 8 14 100, zm 9 15 101, .g (.keep [0, 1, 2, 3, 10, 14, 15])]) (.seq (.reg 0 [zm 0 102 15, zm 1 9 102, .g (.keep [0, 1, 2, 3, 9, 10, 14])]) (.seq (.reg 0 [zm 0 103 14, zm 1 104 1, za 2 105 .sub 103 104, zm 3 106 2, zm 4 107 14, za 5 108 .sub 106 107, zm 6 16 105, zm 7 17 108, .g (.keep [0, 1, 2, 3, 9, 10, 14, 16, 17])]) (.seq (.reg 0 [zm 0 109 10, zd 1 110 .quo 109 8, zm 2 18 110, .g (.keep [0, 1, 2, 3, 9, 14, 16, 17, 18])]) (.seq (.reg 0 [zm 0 111 16, zm 1 112 17, za 2 113 .lss 111 112, .g (.keep [0, 1, 2, 3, 9, 14, 16, 17, 18, 113])]) (.cond (.tmp 113) (.seq (.reg 0 [zm 0 114 16, zm 1 115 18, za 2 116 .geq 114 115, zm 3 8 116, .g (.keep [0, 1, 2, 3, 8, 9, 14])]) (.seq (.reg 0 [zm 0 117 0, zm 1 118 1, zm 2 119 14, zm 3 120 3, .o 4 (.callm (some 121) (.func slices_pdqsortOrdered_int.id) [(.tmp 117), (.tmp 118), (.tmp 119), (.tmp 120)]), .g (.keep [0, 2, 3, 8, 9, 14])]) (.reg 0 [zm 0 122 14, zd 1 123 .add 122 1, zm 2 1 123, .g (.keep [0, 1, 2, 3, 8, 9])]))) (.seq (.reg 0 [zm 0 124 17, zm 1 125 18, za 2 126 .geq 124 125, zm 3 8 126, .g (.keep [0, 1, 2, 3, 8, 9, 14])]) (.seq (.reg 0 [zm 0 127 0, zm 1 128 14, zd 2 129 .add 128 1, zm 3 130 2, zm 4 131 3, .o 5 (.callm (some 132) (.func slices_pdqsortOrdered_int.id) [(.tmp 127), (.tmp 129), (.tmp 130), (.tmp 131)]), .g (.keep [0, 1, 3, 8, 9, 14])]) (.reg 0 [zm 0 133 14, zm 1 2 133, .g (.keep [0, 1, 2, 3, 8, 9])])))))))))))))))))
def slices_pdqsortOrdered_int.ir : C := .seq (.reg 0 [zb 0 8 true, .g (.keep [0, 1, 2, 3, 8])]) (.seq (.reg 0 [zb 0 9 true, .g (.keep [0, 1, 2, 3, 8, 9])]) (.block 0 (.loop slices_pdqsortOrdered_int.b0)))
def slices_pdqsortOrdered_int.rs : List Rs := []
theorem slices_pdqsortOrdered_int.ok : isFn Tryz.prog slices_pdqsortOrdered_int.id 134 slices_pdqsortOrdered_int.ann slices_pdqsortOrdered_int.ir slices_pdqsortOrdered_int.rs := ⟨Tryz.f135, _, Tryz.func135, rfl, rfl, by kernel_rfl, by kernel_rfl⟩
-- math/bits.Len
def math_bits_Len.ann : List (Nat × RA) := [(0, rk [0]), (1, rk [2]), (2, rk [2])]
def math_bits_Len.ir : C := .seq (.reg 0 [zk 0 2 0, .g (.keep [0])]) (.seq (.cond (.const (.bool false)) (.seq (.reg 0 [zm 0 3 0, .o 1 (.lt (some 4) (.conv .u32 (.tmp 3))), .o 2 (.call (some 5) math_bits_Len32.id [(.tmp 4)]), zm 3 2 5, .g (.keep [2])]) (.ret)) (.skip)) (.seq (.reg 0 [zm 0 6 0, .o 1 (.call (some 7) math_bits_Len64.id [(.tmp 6)]), zm 2 2 7, .g (.keep [2])]) (.ret)))
def math_bits_Len.rs : List Rs := [.sl 2]
theorem math_bits_Len.ok : isFn Tryz.prog math_bits_Len.id 8 math_bits_Len.ann math_bits_Len.ir math_bits_Len.rs := ⟨Tryz.f136, _, Tryz.func136, rfl, rfl, by kernel_rfl, by kernel_rfl⟩
-- slices.insertionSortOrdered[int]
def slices_insertionSortOrdered_int.ann : List (Nat × RA) := [(0, rk [0, 1, 2, 6]), (1, rk [0, 1, 2, 6, 12]), (2, rk [0, 1, 2, 6]), (3, rk [0, 1, 2, 6, 7]), (4, ro [0, 1, 2, 6, 7, 30] [0, 1, 2, 3, 4, 5, 6, 7, 8, 9, 10, 11, 12, 13, 14]), (5, rk [0, 1, 2, 6, 7]), (6, ro [0, 1, 2, 6, 7] [0, 1, 2, 3, 4, 5, 6, 7, 8, 9, 10, 11, 12, 13, 14, 15, 16, 17])]
def slices_insertionSortOrdered_int.b1 : C := .seq (.seq (.reg 0 [zm 0 16 7, zm 1 17 1, za 2 18 .gtr 16 17, zm 3 19 18, ym 4 19 true 20 0, ym 5 19 true 21 7, yx 6 19 true 22 1 20 21, yl 7 19 true 23 1 22, ym 8 19 true 24 0, ym 9 19 true 25 7, yd 10 19 true 26 .sub 25 1, yx 11 19 true 27 1 24 26, yl 12 19 true 28 1 27, .gd 13 19 true (some 29) (.call (some 29) cmp_Less_int.id [(.tmp 23), (.tmp 28)]), zr 14 30 19 29 false, .g (.keep [0, 1, 2, 6, 7, 30])]) (.cond (.tmp 30) (.skip) (.exit 2))) (.seq (.block 3 (.reg 0 [zm 0 33 0, zm 1 34 7, zm 2 35 0, zm 3 36 7, zd 4 37 .sub 36 1, zm 5 38 0, zm 6 39 7, zd 7 40 .sub 39 1, zx 8 41 1 38 40, zl 9 42 1 41, zm 10 43 0, zm 11 44 7, zx 12 45 1 43 44, zl 13 46 1 45, zx 14 47 1 33 34, .o 15 (.store [] 1 (.tmp 47) (.tmp 42)), zx 16 48 1 35 37, .o 17 (.store [] 1 (.tmp 48) (.tmp 46)), .g (.keep [0, 1, 2, 6, 7])])) (.reg 0 [zm 0 31 7, zd 1 32 .sub 31 1, zm 2 7 32, .g (.keep [0, 1, 2, 6, 7])]))
def slices_insertionSortOrdered_int.b0 : C := .seq (.seq (.reg 0 [zm 0 10 6, zm 1 11 2, za 2 12 .lss 10 11, .g (.keep [0, 1, 2, 6, 12])]) (.cond (.tmp 12) (.skip) (.exit 0))) (.seq (.block 1 (.seq (.reg 0 [zm 0 15 6, zm 1 7 15, .g (.keep [0, 1, 2, 6, 7])]) (.block 2 (.loop slices_insertionSortOrdered_int.b1)))) (.reg 0 [zm 0 13 6, zd 1 14 .add 13 1, zm 2 6 14, .g (.keep [0, 1, 2, 6])]))
def slices_insertionSortOrdered_int.ir : C := .seq (.reg 0 [zm 0 8 1, zd 1 9 .add 8 1, zm 2 6 9, .g (.keep [0, 1, 2, 6])]) (.block 0 (.loop slices_insertionSortOrdered_int.b0))
def slices_insertionSortOrdered_int.rs : List Rs := []
theorem slices_insertionSortOrdered_int.ok : isFn Tryz.prog slices_insertionSortOrdered_int.id 49 slices_insertionSortOrdered_int.ann slices_insertionSortOrdered_int.ir slices_insertionSortOrdered_int.rs := ⟨Tryz.f137, _, Tryz.func137, rfl, rfl, by kernel_rfl, by kernel_rfl⟩
-- slices.heapSortOrdered[int]
def slices_heapSortOrdered_int.ann : List (Nat × RA) := [(0, rk [0, 1, 2, 6]), (1, rk [0, 1, 2, 6, 7]), (2, rk [0, 6, 7, 8]), (3, rk [0, 6, 7, 8, 9]), (4, rk [0, 6, 7, 8, 9, 19]), (5, rk [0, 6, 7, 8, 9]), (6, rp [0, 6, 7, 8, 9] [(4, [1000000])]), (7, rk [0, 6, 7, 10]), (8, rk [0, 6, 7, 10, 30]), (9, rk [0, 6, 7, 10]), (10, ro [0, 6, 7, 10] [0, 1, 2, 3, 4, 5, 6, 7, 8, 9, 10, 11, 12, 13, 14, 15, 16, 17, 18, 19]), (11, rp [0, 6, 7, 10] [(4, [1000000])])]
def slices_heapSortOrdered_int.b1 : C := .seq (.seq (.reg 0 [zm 0 29 10, zd 1 30 .geq 29 0, .g (.keep [0, 6, 7, 10, 30])]) (.cond (.tmp 30) (.skip) (.exit 2))) (.seq (.block 3 (.seq (.reg 0 [zm 0 33 0, zm 1 34 6, zm 2 35 0, zm 3 36 6, zm 4 37 10, za 5 38 .add 36 37, zm 6 39 0, zm 7 40 6, zm 8 41 10, za 9 42 .add 40 41, zx 10 43 1 39 42, zl 11 44 1 43, zm 12 45 0, zm 13 46 6, zx 14 47 1 45 46, zl 15 48 1 47, zx 16 49 1 33 34, .o 17 (.store [] 1 (.tmp 49) (.tmp 44)), zx 18 50 1 35 38, .o 19 (.store [] 1 (.tmp 50) (.tmp 48)), .g (.keep [0, 6, 7, 10])]) (.reg 0 [zm 0 51 0, zm 1 52 7, zm 2 53 10, zm 3 54 6, .o 4 (.callm (some 55) (.func slices_siftDownOrdered_int.id) [(.tmp 51), (.tmp 52), (.tmp 53), (.tmp 54)]), .g (.keep [0, 6, 7, 10])]))) (.reg 0 [zm 0 31 10, zd 1 32 .sub 31 1, zm 2 10 32, .g (.keep [0, 6, 7, 10])]))
def slices_heapSortOrdered_int.b0 : C := .seq (.seq (.reg 0 [zm 0 18 9, zd 1 19 .geq 18 0, .g (.keep [0, 6, 7, 8, 9, 19])]) (.cond (.tmp 19) (.skip) (.exit 0))) (.seq (.block 1 (.reg 0 [zm 0 22 0, zm 1 23 9, zm 2 24 8, zm 3 25 6, .o 4 (.callm (some 26) (.func slices_siftDownOrdered_int.id) [(.tmp 22), (.tmp 23), (.tmp 24), (.tmp 25)]), .g (.keep [0, 6, 7, 8, 9])])) (.reg 0 [zm 0 20 9, zd 1 21 .sub 20 1, zm 2 9 21, .g (.keep [0, 6, 7, 8, 9])]))
def slices_heapSortOrdered_int.ir : C := .seq (.reg 0 [zm 0 11 1, zm 1 6 11, .g (.keep [0, 1, 2, 6])]) (.seq (.reg 0 [zk 0 7 0, .g (.keep [0, 1, 2, 6, 7])]) (.seq (.reg 0 [zm 0 12 2, zm 1 13 1, za 2 14 .sub 12 13, zm 3 8 14, .g (.keep [0, 6, 7, 8])]) (.seq (.seq (.reg 0 [zm 0 15 8, zd 1 16 .sub 15 1, zd 2 17 .quo 16 2, zm 3 9 17, .g (.keep [0, 6, 7, 8, 9])]) (.block 0 (.loop slices_heapSortOrdered_int.b0))) (.seq (.reg 0 [zm 0 27 8, zd 1 28 .sub 27 1, zm 2 10 28, .g (.keep [0, 6, 7, 10])]) (.block 2 (.loop slices_heapSortOrdered_int.b1))))))
def slices_heapSortOrdered_int.rs : List Rs := []
theorem slices_heapSortOrdered_int.ok : isFn Tryz.prog slices_heapSortOrdered_int.id 56 slices_heapSortOrdered_int.ann slices_heapSortOrdered_int.ir slices_heapSortOrdered_int.rs := ⟨Tryz.f138, _, Tryz.func138, rfl, rfl, by kernel_rfl, by kernel_rfl⟩
-- slices.breakPatternsOrdered[int]
def slices_breakPatternsOrdered_int.ann : List (Nat × RA) := [(0, rk [0, 1, 6]), (1, rk [0, 1, 6, 15]), (2, rk [0, 1, 6, 7]), (3, rk [0, 1, 6, 7, 8]), (4, rk [0, 1, 6, 7, 8, 9]), (5, rk [0, 1, 6, 7, 8, 9, 33]), (6, rk [0, 1, 6, 7, 8, 9]), (7, rp [0, 1, 6, 7, 8, 9, 10] [(0, [1000000])]), (8, rk [0, 1, 6, 7, 8, 9, 10, 43]), (9, rk [0, 1, 6, 7, 8, 9, 10]), (10, ro [0, 1, 6, 7, 8, 9] [0, 1, 2, 3, 4, 5, 6, 7, 8, 9, 10, 11, 12, 13, 14, 15, 16, 17, 18, 19])]
def slices_breakPatternsOrdered_int.b0 : C := .seq (.seq (.reg 0 [zm 0 26 9, zm 1 27 1, zm 2 28 6, zd 3 29 .quo 28 4, zd 4 30 .mul 29 2, za 5 31 .add 27 30, zd 6 32 .add 31 1, za 7 33 .leq 26 32, .g (.keep [0, 1, 6, 7, 8, 9, 33])]) (.cond (.tmp 33) (.skip) (.exit 0))) (.seq (.block 1 (.seq (.reg 0 [.o 0 (.callm (some 36) (.func slices_xorshift_Next.id) [(.tmp 7)]), zm 1 37 8, .o 2 (.lt (some 38) (.bin .sub (.tmp 37) (.const (.int .u64 1)))), za 3 39 .and 36 38, .o 4 (.lt (some 40) (.conv .i64 (.tmp 39))), zm 5 10 40, .g (.keep [0, 1, 6, 7, 8, 9, 10])]) (.seq (.seq (.reg 0 [zm 0 41 10, zm 1 42 6, za 2 43 .geq 41 42, .g (.keep [0, 1, 6, 7, 8, 9, 10, 43])]) (.cond (.tmp 43) (.reg 0 [zm 0 44 10, zm 1 45 6, za 2 46 .sub 44 45, zm 3 10 46, .g (.keep [0, 1, 6, 7, 8, 9, 10])]) (.skip))) (.reg 0 [zm 0 47 0, zm 1 48 9, zm 2 49 0, zm 3 50 1, zm 4 51 10, za 5 52 .add 50 51, zm 6 53 0, zm 7 54 1, zm 8 55 10, za 9 56 .add 54 55, zx 10 57 1 53 56, zl 11 58 1 57, zm 12 59 0, zm 13 60 9, zx 14 61 1 59 60, zl 15 62 1 61, zx 16 63 1 47 48, .o 17 (.store [] 1 (.tmp 63) (.tmp 58)), zx 18 64 1 49 52, .o 19 (.store [] 1 (.tmp 64) (.tmp 62)), .g (.keep [0, 1, 6, 7, 8, 9])])))) (.reg 0 [zm 0 34 9, zd 1 35 .add 34 1, zm 2 9 35, .g (.keep [0, 1, 6, 7, 8, 9])]))
def slices_breakPatternsOrdered_int.ir : C := .seq (.reg 0 [zm 0 11 2, zm 1 12 1, za 2 13 .sub 11 12, zm 3 6 13, .g (.keep [0, 1, 6])]) (.seq (.reg 0 [zm 0 14 6, zd 1 15 .geq 14 8, .g (.keep [0, 1, 6, 15])]) (.cond (.tmp 15) (.seq (.reg 1 [zm 0 16 6, .o 1 (.lt (some 17) (.conv .u64 (.tmp 16))), .o 2 (.alloc (some 7) 0 1 [.a (.int .u64 0)]), .o 3 (.store [] 1 (.tmp 7) (.tmp 17)), .g (.keep [0, 1, 6, 7])]) (.seq (.reg 0 [zm 0 18 6, .o 1 (.call (some 19) slices_nextPowerOfTwo.id [(.tmp 18)]), zm 2 8 19, .g (.keep [0, 1, 6, 7, 8])]) (.seq (.reg 0 [zm 0 20 1, zm 1 21 6, zd 2 22 .quo 21 4, zd 3 23 .mul 22 2, za 4 24 .add 20 23, zd 5 25 .sub 24 1, zm 6 9 25, .g (.keep [0, 1, 6, 7, 8, 9])]) (.block 0 (.loop slices_breakPatternsOrdered_int.b0))))) (.skip)))
def slices_breakPatternsOrdered_int.rs : List Rs := []
theorem slices_breakPatternsOrdered_int.ok : isFn Tryz.prog slices_breakPatternsOrdered_int.id 65 slices_breakPatternsOrdered_int.ann slices_breakPatternsOrdered_int.ir slices_breakPatternsOrdered_int.rs := ⟨Tryz.f139, _, Tryz.func139, rfl, rfl, by kernel_rfl, by kernel_rfl⟩
-- slices.choosePivotOrdered[int]
def slices_choosePivotOrdered_int.ann : List (Nat × RA) := [(0, rk [0, 1, 2]), (1, rk [0, 1, 8]), (2, rk [0, 1, 8, 9]), (3, rk [0, 1, 8, 9, 10]), (4, rk [0, 1, 8, 9, 10, 11]), (5, rk [0, 8, 9, 10, 11, 12]), (6, rk [0, 8, 9, 10, 11, 12, 32]), (7, rk [0, 9, 10, 11, 12, 34]), (8, rp [0, 9, 10, 11, 12] [(2, [1000000])]), (9, rp [0, 9, 10, 11, 12] [(2, [1000000])]), (10, rp [0, 9, 10, 11, 12] [(2, [1000000])]), (11, rp [9, 11] [(4, [1000000])]), (12, rk [11, 49]), (13, rk [6, 7]), (14, rk [11, 49, 51]), (15, rk [6, 7]), (16, rk [11, 54]), (17, rk [6, 7])]
def slices_choosePivotOrdered_int.ir : C := .seq (.reg 0 [zk 0 6 0, zk 1 7 0, .g (.keep [0, 1, 2])]) (.seq (.reg 0 [zm 0 13 2, zm 1 14 1, za 2 15 .sub 13 14, zm 3 8 15, .g (.keep [0, 1, 8])]) (.seq (.reg 1 [.o 0 (.alloc (some 9) 0 1 [.a (.int .i64 0)]), .g (.keep [0, 1, 8, 9])]) (.seq (.reg 0 [zm 0 16 1, zm 1 17 8, zd 2 18 .quo 17 4, zd 3 19 .mul 18 1, za 4 20 .add 16 19, zm 5 10 20, .g (.keep [0, 1, 8, 9, 10])]) (.seq (.reg 0 [zm 0 21 1, zm 1 22 8, zd 2 23 .quo 22 4, zd 3 24 .mul 23 2, za 4 25 .add 21 24, zm 5 11 25, .g (.keep [0, 1, 8, 9, 10, 11])]) (.seq (.reg 0 [zm 0 26 1, zm 1 27 8, zd 2 28 .quo 27 4, zd 3 29 .mul 28 3, za 4 30 .add 26 29, zm 5 12 30, .g (.keep [0, 8, 9, 10, 11, 12])]) (.seq (.seq (.reg 0 [zm 0 31 8, zd 1 32 .geq 31 8, .g (.keep [0, 8, 9, 10, 11, 12, 32])]) (.cond (.tmp 32) (.seq (.seq (.reg 0 [zm 0 33 8, zd 1 34 .geq 33 50, .g (.keep [0, 9, 10, 11, 12, 34])]) (.cond (.tmp 34) (.seq (.reg 0 [zm 0 35 0, zm 1 36 10, .o 2 (.callm (some 37) (.func slices_medianAdjacentOrdered_int.id) [(.tmp 35), (.tmp 36), (.tmp 9)]), zm 3 10 37, .g (.keep [0, 9, 10, 11, 12])]) (.seq (.reg 0 [zm 0 38 0, zm 1 39 11, .o 2 (.callm (some 40) (.func slices_medianAdjacentOrdered_int.id) [(.tmp 38), (.tmp 39), (.tmp 9)]), zm 3 11 40, .g (.keep [0, 9, 10, 11, 12])]) (.reg 0 [zm 0 41 0, zm 1 42 12, .o 2 (.callm (some 43) (.func slices_medianAdjacentOrdered_int.id) [(.tmp 41), (.tmp 42), (.tmp 9)]), zm 3 12 43, .g (.keep [0, 9, 10, 11, 12])]))) (.skip))) (.reg 0 [zm 0 44 0, zm 1 45 10, zm 2 46 11, zm 3 47 12, .o 4 (.callm (some 48) (.func slices_medianOrdered_int.id) [(.tmp 44), (.tmp 45), (.tmp 46), (.tmp 47), (.tmp 9)]), zm 5 11 48, .g (.keep [9, 11])])) (.skip))) (.seq (.reg 0 [zl 0 49 1 9, .g (.keep [11, 49])]) (.block 0 (.seq (.reg 0 [zd 0 52 .eql 49 0, zm 1 51 52, .g (.keep [11, 49, 51])]) (.cond (.tmp 51) (.seq (.reg 0 [zm 0 53 11, zm 1 6 53, zk 2 7 1, .g (.keep [6, 7])]) (.ret)) (.seq (.reg 0 [zd 0 55 .eql 49 12, zm 1 54 55, .g (.keep [11, 54])]) (.cond (.tmp 54) (.seq (.reg 0 [zm 0 56 11, zm 1 6 56, zk 2 7 2, .g (.keep [6, 7])]) (.ret)) (.seq (.reg 0 [zm 0 50 11, zm 1 6 50, zk 2 7 0, .g (.keep [6, 7])]) (.ret))))))))))))))
def slices_choosePivotOrdered_int.rs : List Rs := [.sl 6, .sl 7]
theorem slices_choosePivotOrdered_int.ok : isFn Tryz.prog slices_choosePivotOrdered_int.id 57 slices_choosePivotOrdered_int.ann slices_choosePivotOrdered_int.ir slices_choosePivotOrdered_int.rs := ⟨Tryz.f140, _, Tryz.func140, rfl, rfl, by kernel_rfl, by kernel_rfl⟩
-- slices.reverseRangeOrdered[int]
def slices_reverseRangeOrdered_int.ann : List (Nat × RA) := [(0, rk [0, 2, 6]), (1, rk [0, 6, 7]), (2, rk [0, 6, 7, 13]), (3, ro [0, 6, 7] [0, 1, 2, 3, 4, 5, 6, 7, 8, 9, 10, 11, 12, 13, 14, 15]), (4, rk [0, 6, 7]), (5, rk [0, 6, 7])]
def slices_reverseRangeOrdered_int.b0 : C := .seq (.seq (.reg 0 [zm 0 11 6, zm 1 12 7, za 2 13 .lss 11 12, .g (.keep [0, 6, 7, 13])]) (.cond (.tmp 13) (.skip) (.exit 0))) (.block 1 (.seq (.reg 0 [zm 0 14 0, zm 1 15 6, zm 2 16 0, zm 3 17 7, zm 4 18 0, zm 5 19 7, zx 6 20 1 18 19, zl 7 21 1 20, zm 8 22 0, zm 9 23 6, zx 10 24 1 22 23, zl 11 25 1 24, zx 12 26 1 14 15, .o 13 (.store [] 1 (.tmp 26) (.tmp 21)), zx 14 27 1 16 17, .o 15 (.store [] 1 (.tmp 27) (.tmp 25)), .g (.keep [0, 6, 7])]) (.seq (.reg 0 [zm 0 28 6, zd 1 29 .add 28 1, zm 2 6 29, .g (.keep [0, 6, 7])]) (.reg 0 [zm 0 30 7, zd 1 31 .sub 30 1, zm 2 7 31, .g (.keep [0, 6, 7])]))))
def slices_reverseRangeOrdered_int.ir : C := .seq (.reg 0 [zm 0 8 1, zm 1 6 8, .g (.keep [0, 2, 6])]) (.seq (.reg 0 [zm 0 9 2, zd 1 10 .sub 9 1, zm 2 7 10, .g (.keep [0, 6, 7])]) (.block 0 (.loop slices_reverseRangeOrdered_int.b0)))
def slices_reverseRangeOrdered_int.rs : List Rs := []
theorem slices_reverseRangeOrdered_int.ok : isFn Tryz.prog slices_reverseRangeOrdered_int.id 32 slices_reverseRangeOrdered_int.ann slices_reverseRangeOrdered_int.ir slices_reverseRangeOrdered_int.rs := ⟨Tryz.f141, _, Tryz.func141, rfl, rfl, by kernel_rfl, by kernel_rfl⟩
-- slices.partialInsertionSortOrdered[int]
def slices_partialInsertionSortOrdered_int.ann : List (Nat × RA) := [(0, rk [0, 1, 2]), (1, rk [0, 1, 2, 7]), (2, rk [0, 1, 2, 7, 8]), (3, rk [0, 1, 2, 7, 8, 14]), (4, rk [0, 1, 2, 7, 8]), (5, ro [0, 1, 2, 7, 8, 32] [0, 1, 2, 3, 4, 5, 6, 7, 8, 9, 10, 11, 12, 13, 14, 15]), (6, rk [0, 1, 2, 7, 8]), (7, rk [0, 1, 2, 7, 8, 37]), (8, rk [6]), (9, rk [0, 1, 2, 7, 8, 41]), (10, rk [6]), (11, ro [0, 1, 2, 7, 8] [0, 1, 2, 3, 4, 5, 6, 7, 8, 9, 10, 11, 12, 13, 14, 15, 16, 17]), (12, rk [0, 1, 2, 7, 8, 61]), (13, rk [0, 1, 2, 7, 8, 9]), (14, rk [0, 1, 2, 7, 8, 9, 65]), (15, rk [0, 1, 2, 7, 8, 9]), (16, ro [0, 1, 2, 7, 8, 9, 78] [0, 1, 2, 3, 4, 5, 6, 7, 8, 9, 10]), (17, ro [0, 1, 2, 7, 8, 9] [0, 1, 2, 3, 4, 5, 6, 7, 8, 9, 10, 11, 12, 13, 14, 15, 16, 17]), (18, rk [0, 1, 2, 7, 8, 98]), (19, rk [0, 1, 2, 7, 8, 10]), (20, rk [0, 1, 2, 7, 8, 10, 103]), (21, rk [0, 1, 2, 7, 8, 10]), (22, ro [0, 1, 2, 7, 8, 10, 116] [0, 1, 2, 3, 4, 5, 6, 7, 8, 9, 10]), (23, ro [0, 1, 2, 7, 8, 10] [0, 1, 2, 3, 4, 5, 6, 7, 8, 9, 10, 11, 12, 13, 14, 15, 16, 17]), (24, rk [6])]
def slices_partialInsertionSortOrdered_int.b3 : C := .seq (.seq (.reg 0 [zm 0 101 10, zm 1 102 2, za 2 103 .lss 101 102, .g (.keep [0, 1, 2, 7, 8, 10, 103])]) (.cond (.tmp 103) (.skip) (.exit 6))) (.seq (.block 7 (.seq (.seq (.reg 0 [zm 0 106 0, zm 1 107 10, zx 2 108 1 106 107, zl 3 109 1 108, zm 4 110 0, zm 5 111 10, zd 6 112 .sub 111 1, zx 7 113 1 110 112, zl 8 114 1 113, .o 9 (.call (some 115) cmp_Less_int.id [(.tmp 109), (.tmp 114)]), zq 10 116 115, .g (.keep [0, 1, 2, 7, 8, 10, 116])]) (.cond (.tmp 116) (.exit 6) (.skip))) (.reg 0 [zm 0 117 0, zm 1 118 10, zm 2 119 0, zm 3 120 10, zd 4 121 .sub 120 1, zm 5 122 0, zm 6 123 10, zd 7 124 .sub 123 1, zx 8 125 1 122 124, zl 9 126 1 125, zm 10 127 0, zm 11 128 10, zx 12 129 1 127 128, zl 13 130 1 129, zx 14 131 1 117 118, .o 15 (.store [] 1 (.tmp 131) (.tmp 126)), zx 16 132 1 119 121, .o 17 (.store [] 1 (.tmp 132) (.tmp 130)), .g (.keep [0, 1, 2, 7, 8, 10])]))) (.reg 0 [zm 0 104 10, zd 1 105 .add 104 1, zm 2 10 105, .g (.keep [0, 1, 2, 7, 8, 10])]))
def slices_partialInsertionSortOrdered_int.b2 : C := .seq (.seq (.reg 0 [zm 0 64 9, zd 1 65 .geq 64 1, .g (.keep [0, 1, 2, 7, 8, 9, 65])]) (.cond (.tmp 65) (.skip) (.exit 4))) (.seq (.block 5 (.seq (.seq (.reg 0 [zm 0 68 0, zm 1 69 9, zx 2 70 1 68 69, zl 3 71 1 70, zm 4 72 0, zm 5 73 9, zd 6 74 .sub 73 1, zx 7 75 1 72 74, zl 8 76 1 75, .o 9 (.call (some 77) cmp_Less_int.id [(.tmp 71), (.tmp 76)]), zq 10 78 77, .g (.keep [0, 1, 2, 7, 8, 9, 78])]) (.cond (.tmp 78) (.exit 4) (.skip))) (.reg 0 [zm 0 79 0, zm 1 80 9, zm 2 81 0, zm 3 82 9, zd 4 83 .sub 82 1, zm 5 84 0, zm 6 85 9, zd 7 86 .sub 85 1, zx 8 87 1 84 86, zl 9 88 1 87, zm 10 89 0, zm 11 90 9, zx 12 91 1 89 90, zl 13 92 1 91, zx 14 93 1 79 80, .o 15 (.store [] 1 (.tmp 93) (.tmp 88)), zx 16 94 1 81 83, .o 17 (.store [] 1 (.tmp 94) (.tmp 92)), .g (.keep [0, 1, 2, 7, 8, 9])]))) (.reg 0 [zm 0 66 9, zd 1 67 .sub 66 1, zm 2 9 67, .g (.keep [0, 1, 2, 7, 8, 9])]))
def slices_partialInsertionSortOrdered_int.b1 : C := .seq (.seq (.reg 0 [zm 0 17 7, zm 1 18 2, za 2 19 .lss 17 18, zm 3 20 19, ym 4 20 true 21 0, ym 5 20 true 22 7, yx 6 20 true 23 1 21 22, yl 7 20 true 24 1 23, ym 8 20 true 25 0, ym 9 20 true 26 7, yd 10 20 true 27 .sub 26 1, yx 11 20 true 28 1 25 27, yl 12 20 true 29 1 28, .gd 13 20 true (some 30) (.call (some 30) cmp_Less_int.id [(.tmp 24), (.tmp 29)]), yq 14 20 true 31 30, zr 15 32 20 31 false, .g (.keep [0, 1, 2, 7, 8, 32])]) (.cond (.tmp 32) (.skip) (.exit 2))) (.block 3 (.reg 0 [zm 0 33 7, zd 1 34 .add 33 1, zm 2 7 34, .g (.keep [0, 1, 2, 7, 8])]))
def slices_partialInsertionSortOrdered_int.b0 : C := .seq (.seq (.reg 0 [zm 0 13 8, zd 1 14 .lss 13 5, .g (.keep [0, 1, 2, 7, 8, 14])]) (.cond (.tmp 14) (.skip) (.exit 0))) (.seq (.block 1 (.seq (.block 2 (.loop slices_partialInsertionSortOrdered_int.b1)) (.seq (.seq (.reg 0 [zm 0 35 7, zm 1 36 2, za 2 37 .eql 35 36, .g (.keep [0, 1, 2, 7, 8, 37])]) (.cond (.tmp 37) (.seq (.reg 0 [zb 0 6 true, .g (.keep [6])]) (.ret)) (.skip))) (.seq (.seq (.reg 0 [zm 0 38 2, zm 1 39 1, za 2 40 .sub 38 39, zd 3 41 .lss 40 50, .g (.keep [0, 1, 2, 7, 8, 41])]) (.cond (.tmp 41) (.seq (.reg 0 [zb 0 6 false, .g (.keep [6])]) (.ret)) (.skip))) (.seq (.reg 0 [zm 0 42 0, zm 1 43 7, zm 2 44 0, zm 3 45 7, zd 4 46 .sub 45 1, zm 5 47 0, zm 6 48 7, zd 7 49 .sub 48 1, zx 8 50 1 47 49, zl 9 51 1 50, zm 10 52 0, zm 11 53 7, zx 12 54 1 52 53, zl 13 55 1 54, zx 14 56 1 42 43, .o 15 (.store [] 1 (.tmp 56) (.tmp 51)), zx 16 57 1 44 46, .o 17 (.store [] 1 (.tmp 57) (.tmp 55)), .g (.keep [0, 1, 2, 7, 8])]) (.seq (.seq (.reg 0 [zm 0 58 7, zm 1 59 1, za 2 60 .sub 58 59, zd 3 61 .geq 60 2, .g (.keep [0, 1, 2, 7, 8, 61])]) (.cond (.tmp 61) (.seq (.reg 0 [zm 0 62 7, zd 1 63 .sub 62 1, zm 2 9 63, .g (.keep [0, 1, 2, 7, 8, 9])]) (.block 4 (.loop slices_partialInsertionSortOrdered_int.b2))) (.skip))) (.seq (.reg 0 [zm 0 95 2, zm 1 96 7, za 2 97 .sub 95 96, zd 3 98 .geq 97 2, .g (.keep [0, 1, 2, 7, 8, 98])]) (.cond (.tmp 98) (.seq (.reg 0 [zm 0 99 7, zd 1 100 .add 99 1, zm 2 10 100, .g (.keep [0, 1, 2, 7, 8, 10])]) (.block 6 (.loop slices_partialInsertionSortOrdered_int.b3))) (.skip))))))))) (.reg 0 [zm 0 15 8, zd 1 16 .add 15 1, zm 2 8 16, .g (.keep [0, 1, 2, 7, 8])]))
def slices_partialInsertionSortOrdered_int.ir : C := .seq (.reg 0 [zb 0 6 false, .g (.keep [0, 1, 2])]) (.seq (.reg 0 [zm 0 11 1, zd 1 12 .add 11 1, zm 2 7 12, .g (.keep [0, 1, 2, 7])]) (.seq (.seq (.reg 0 [zk 0 8 0, .g (.keep [0, 1, 2, 7, 8])]) (.block 0 (.loop slices_partialInsertionSortOrdered_int.b0))) (.seq (.reg 0 [zb 0 6 false, .g (.keep [6])]) (.ret))))
def slices_partialInsertionSortOrdered_int.rs : List Rs := [.sl 6]
theorem slices_partialInsertionSortOrdered_int.ok : isFn Tryz.prog slices_partialInsertionSortOrdered_int.id 133 slices_partialInsertionSortOrdered_int.ann slices_partialInsertionSortOrdered_int.ir slices_partialInsertionSortOrdered_int.rs := ⟨Tryz.f142, _, Tryz.func142, rfl, rfl, by kernel_rfl, by kernel_rfl⟩
-- cmp.Less[int]
def cmp_Less_int.ann : List (Nat × RA) := [(0, rk [0, 1]), (1, rk [4])]
def cmp_Less_int.ir : C := .seq (.reg 0 [zb 0 4 false, .g (.keep [0, 1])]) (.seq (.reg 0 [zm 0 5 0, .o 1 (.call (some 6) cmp_isNaN_int.id [(.tmp 5)]), zm 2 7 6, ym 3 7 true 8 1, .gd 4 7 true (some 9) (.call (some 9) cmp_isNaN_int.id [(.tmp 8)]), yq 5 7 true 10 9, zr 6 11 7 10 false, zm 7 12 11, ym 8 12 false 13 0, ym 9 12 false 14 1, ya 10 12 false 15 .lss 13 14, zp 11 16 12 true 15, zm 12 4 16, .g (.keep [4])]) (.ret))
def cmp_Less_int.rs : List Rs := [.sl 4]
theorem cmp_Less_int.ok : isFn Tryz.prog cmp_Less_int.id 17 cmp_Less_int.ann cmp_Less_int.ir cmp_Less_int.rs := ⟨Tryz.f143, _, Tryz.func143, rfl, rfl, by kernel_rfl, by kernel_rfl⟩
-- slices.partitionEqualOrdered[int]
def slices_partitionEqualOrdered_int.ann : List (Nat × RA) := [(0, rk [0, 1, 2, 3]), (1, ro [0, 1, 2] [0, 1, 2, 3, 4, 5, 6, 7, 8, 9, 10, 11, 12, 13, 14, 15]), (2, rk [0, 1, 9, 10]), (3, ro [0, 1, 9, 10, 43] [0, 1, 2, 3, 4, 5, 6, 7, 8, 9, 10, 11, 12, 13, 14]), (4, rk [0, 1, 9, 10]), (5, ro [0, 1, 9, 10, 59] [0, 1, 2, 3, 4, 5, 6, 7, 8, 9, 10, 11, 12, 13]), (6, rk [0, 1, 9, 10]), (7, rk [0, 1, 9, 10, 64]), (8, ro [0, 1, 9, 10] [0, 1, 2, 3, 4, 5, 6, 7, 8, 9, 10, 11, 12, 13, 14, 15]), (9, rk [0, 1, 9, 10]), (10, rk [0, 1, 9, 10]), (11, rk [8])]
def slices_partitionEqualOrdered_int.b2 : C := .seq (.seq (.reg 0 [zm 0 46 9, zm 1 47 10, za 2 48 .leq 46 47, zm 3 49 48, ym 4 49 true 50 0, ym 5 49 true 51 1, yx 6 49 true 52 1 50 51, yl 7 49 true 53 1 52, ym 8 49 true 54 0, ym 9 49 true 55 10, yx 10 49 true 56 1 54 55, yl 11 49 true 57 1 56, .gd 12 49 true (some 58) (.call (some 58) cmp_Less_int.id [(.tmp 53), (.tmp 57)]), zr 13 59 49 58 false, .g (.keep [0, 1, 9, 10, 59])]) (.cond (.tmp 59) (.skip) (.exit 4))) (.block 5 (.reg 0 [zm 0 60 10, zd 1 61 .sub 60 1, zm 2 10 61, .g (.keep [0, 1, 9, 10])]))
def slices_partitionEqualOrdered_int.b1 : C := .seq (.seq (.reg 0 [zm 0 29 9, zm 1 30 10, za 2 31 .leq 29 30, zm 3 32 31, ym 4 32 true 33 0, ym 5 32 true 34 1, yx 6 32 true 35 1 33 34, yl 7 32 true 36 1 35, ym 8 32 true 37 0, ym 9 32 true 38 9, yx 10 32 true 39 1 37 38, yl 11 32 true 40 1 39, .gd 12 32 true (some 41) (.call (some 41) cmp_Less_int.id [(.tmp 36), (.tmp 40)]), yq 13 32 true 42 41, zr 14 43 32 42 false, .g (.keep [0, 1, 9, 10, 43])]) (.cond (.tmp 43) (.skip) (.exit 2))) (.block 3 (.reg 0 [zm 0 44 9, zd 1 45 .add 44 1, zm 2 9 45, .g (.keep [0, 1, 9, 10])]))
def slices_partitionEqualOrdered_int.b0 : C := .block 1 (.seq (.block 2 (.loop slices_partitionEqualOrdered_int.b1)) (.seq (.block 4 (.loop slices_partitionEqualOrdered_int.b2)) (.seq (.seq (.reg 0 [zm 0 62 9, zm 1 63 10, za 2 64 .gtr 62 63, .g (.keep [0, 1, 9, 10, 64])]) (.cond (.tmp 64) (.exit 0) (.skip))) (.seq (.reg 0 [zm 0 65 0, zm 1 66 9, zm 2 67 0, zm 3 68 10, zm 4 69 0, zm 5 70 10, zx 6 71 1 69 70, zl 7 72 1 71, zm 8 73 0, zm 9 74 9, zx 10 75 1 73 74, zl 11 76 1 75, zx 12 77 1 65 66, .o 13 (.store [] 1 (.tmp 77) (.tmp 72)), zx 14 78 1 67 68, .o 15 (.store [] 1 (.tmp 78) (.tmp 76)), .g (.keep [0, 1, 9, 10])]) (.seq (.reg 0 [zm 0 79 9, zd 1 80 .add 79 1, zm 2 9 80, .g (.keep [0, 1, 9, 10])]) (.reg 0 [zm 0 81 10, zd 1 82 .sub 81 1, zm 2 10 82, .g (.keep [0, 1, 9, 10])]))))))
def slices_partitionEqualOrdered_int.ir : C := .seq (.reg 0 [zk 0 8 0, .g (.keep [0, 1, 2, 3])]) (.seq (.reg 0 [zm 0 11 0, zm 1 12 1, zm 2 13 0, zm 3 14 3, zm 4 15 0, zm 5 16 3, zx 6 17 1 15 16, zl 7 18 1 17, zm 8 19 0, zm 9 20 1, zx 10 21 1 19 20, zl 11 22 1 21, zx 12 23 1 11 12, .o 13 (.store [] 1 (.tmp 23) (.tmp 18)), zx 14 24 1 13 14, .o 15 (.store [] 1 (.tmp 24) (.tmp 22)), .g (.keep [0, 1, 2])]) (.seq (.reg 0 [zm 0 25 1, zd 1 26 .add 25 1, zm 2 27 2, zd 3 28 .sub 27 1, zm 4 9 26, zm 5 10 28, .g (.keep [0, 1, 9, 10])]) (.seq (.block 0 (.loop slices_partitionEqualOrdered_int.b0)) (.seq (.reg 0 [zm 0 83 9, zm 1 8 83, .g (.keep [8])]) (.ret)))))
def slices_partitionEqualOrdered_int.rs : List Rs := [.sl 8]
theorem slices_partitionEqualOrdered_int.ok : isFn Tryz.prog slices_partitionEqualOrdered_int.id 84 slices_partitionEqualOrdered_int.ann slices_partitionEqualOrdered_int.ir slices_partitionEqualOrdered_int.rs := ⟨Tryz.f144, _, Tryz.func144, rfl, rfl, by kernel_rfl, by kernel_rfl⟩
-- slices.partitionOrdered[int]
def slices_partitionOrdered_int.ann : List (Nat × RA) := [(0, rk [0, 1, 2, 3]), (1, ro [0, 1, 2] [0, 1, 2, 3, 4, 5, 6, 7, 8, 9, 10, 11, 12, 13, 14, 15]), (2, rk [0, 1, 10, 11]), (3, ro [0, 1, 10, 11, 43] [0, 1, 2, 3, 4, 5, 6, 7, 8, 9, 10, 11, 12, 13]), (4, rk [0, 1, 10, 11]), (5, ro [0, 1, 10, 11, 60] [0, 1, 2, 3, 4, 5, 6, 7, 8, 9, 10, 11, 12, 13, 14]), (6, rk [0, 1, 10, 11]), (7, rk [0, 1, 10, 11, 65]), (8, ro [11] [0, 1, 2, 3, 4, 5, 6, 7, 8, 9, 10, 11, 12, 13, 14, 15]), (9, rk [8, 9]), (10, ro [0, 1, 10, 11] [0, 1, 2, 3, 4, 5, 6, 7, 8, 9, 10, 11, 12, 13, 14, 15]), (11, rk [0, 1, 10, 11]), (12, rk [0, 1, 10, 11]), (13, ro [0, 1, 10, 11, 112] [0, 1, 2, 3, 4, 5, 6, 7, 8, 9, 10, 11, 12, 13]), (14, rk [0, 1, 10, 11]), (15, ro [0, 1, 10, 11, 129] [0, 1, 2, 3, 4, 5, 6, 7, 8, 9, 10, 11, 12, 13, 14]), (16, rk [0, 1, 10, 11]), (17, rk [0, 1, 10, 11, 134]), (18, ro [0, 1, 10, 11] [0, 1, 2, 3, 4, 5, 6, 7, 8, 9, 10, 11, 12, 13, 14, 15]), (19, rk [0, 1, 10, 11]), (20, rk [0, 1, 10, 11]), (21, ro [11] [0, 1, 2, 3, 4, 5, 6, 7, 8, 9, 10, 11, 12, 13, 14, 15]), (22, rk [8, 9])]
def slices_partitionOrdered_int.b4 : C := .seq (.seq (.reg 0 [zm 0 115 10, zm 1 116 11, za 2 117 .leq 115 116, zm 3 118 117, ym 4 118 true 119 0, ym 5 118 true 120 11, yx 6 118 true 121 1 119 120, yl 7 118 true 122 1 121, ym 8 118 true 123 0, ym 9 118 true 124 1, yx 10 118 true 125 1 123 124, yl 11 118 true 126 1 125, .gd 12 118 true (some 127) (.call (some 127) cmp_Less_int.id [(.tmp 122), (.tmp 126)]), yq 13 118 true 128 127, zr 14 129 118 128 false, .g (.keep [0, 1, 10, 11, 129])]) (.cond (.tmp 129) (.skip) (.exit 8))) (.block 9 (.reg 0 [zm 0 130 11, zd 1 131 .sub 130 1, zm 2 11 131, .g (.keep [0, 1, 10, 11])]))
def slices_partitionOrdered_int.b3 : C := .seq (.seq (.reg 0 [zm 0 99 10, zm 1 100 11, za 2 101 .leq 99 100, zm 3 102 101, ym 4 102 true 103 0, ym 5 102 true 104 10, yx 6 102 true 105 1 103 104, yl 7 102 true 106 1 105, ym 8 102 true 107 0, ym 9 102 true 108 1, yx 10 102 true 109 1 107 108, yl 11 102 true 110 1 109, .gd 12 102 true (some 111) (.call (some 111) cmp_Less_int.id [(.tmp 106), (.tmp 110)]), zr 13 112 102 111 false, .g (.keep [0, 1, 10, 11, 112])]) (.cond (.tmp 112) (.skip) (.exit 6))) (.block 7 (.reg 0 [zm 0 113 10, zd 1 114 .add 113 1, zm 2 10 114, .g (.keep [0, 1, 10, 11])]))
def slices_partitionOrdered_int.b2 : C := .block 5 (.seq (.block 6 (.loop slices_partitionOrdered_int.b3)) (.seq (.block 8 (.loop slices_partitionOrdered_int.b4)) (.seq (.seq (.reg 0 [zm 0 132 10, zm 1 133 11, za 2 134 .gtr 132 133, .g (.keep [0, 1, 10, 11, 134])]) (.cond (.tmp 134) (.exit 4) (.skip))) (.seq (.reg 0 [zm 0 135 0, zm 1 136 10, zm 2 137 0, zm 3 138 11, zm 4 139 0, zm 5 140 11, zx 6 141 1 139 140, zl 7 142 1 141, zm 8 143 0, zm 9 144 10, zx 10 145 1 143 144, zl 11 146 1 145, zx 12 147 1 135 136, .o 13 (.store [] 1 (.tmp 147) (.tmp 142)), zx 14 148 1 137 138, .o 15 (.store [] 1 (.tmp 148) (.tmp 146)), .g (.keep [0, 1, 10, 11])]) (.seq (.reg 0 [zm 0 149 10, zd 1 150 .add 149 1, zm 2 10 150, .g (.keep [0, 1, 10, 11])]) (.reg 0 [zm 0 151 11, zd 1 152 .sub 151 1, zm 2 11 152, .g (.keep [0, 1, 10, 11])]))))))
def slices_partitionOrdered_int.b1 : C := .seq (.seq (.reg 0 [zm 0 46 10, zm 1 47 11, za 2 48 .leq 46 47, zm 3 49 48, ym 4 49 true 50 0, ym 5 49 true 51 11, yx 6 49 true 52 1 50 51, yl 7 49 true 53 1 52, ym 8 49 true 54 0, ym 9 49 true 55 1, yx 10 49 true 56 1 54 55, yl 11 49 true 57 1 56, .gd 12 49 true (some 58) (.call (some 58) cmp_Less_int.id [(.tmp 53), (.tmp 57)]), yq 13 49 true 59 58, zr 14 60 49 59 false, .g (.keep [0, 1, 10, 11, 60])]) (.cond (.tmp 60) (.skip) (.exit 2))) (.block 3 (.reg 0 [zm 0 61 11, zd 1 62 .sub 61 1, zm 2 11 62, .g (.keep [0, 1, 10, 11])]))
def slices_partitionOrdered_int.b0 : C := .seq (.seq (.reg 0 [zm 0 30 10, zm 1 31 11, za 2 32 .leq 30 31, zm 3 33 32, ym 4 33 true 34 0, ym 5 33 true 35 10, yx 6 33 true 36 1 34 35, yl 7 33 true 37 1 36, ym 8 33 true 38 0, ym 9 33 true 39 1, yx 10 33 true 40 1 38 39, yl 11 33 true 41 1 40, .gd 12 33 true (some 42) (.call (some 42) cmp_Less_int.id [(.tmp 37), (.tmp 41)]), zr 13 43 33 42 false, .g (.keep [0, 1, 10, 11, 43])]) (.cond (.tmp 43) (.skip) (.exit 0))) (.block 1 (.reg 0 [zm 0 44 10, zd 1 45 .add 44 1, zm 2 10 45, .g (.keep [0, 1, 10, 11])]))
def slices_partitionOrdered_int.ir : C := .seq (.reg 0 [zk 0 8 0, zb 1 9 false, .g (.keep [0, 1, 2, 3])]) (.seq (.reg 0 [zm 0 12 0, zm 1 13 1, zm 2 14 0, zm 3 15 3, zm 4 16 0, zm 5 17 3, zx 6 18 1 16 17, zl 7 19 1 18, zm 8 20 0, zm 9 21 1, zx 10 22 1 20 21, zl 11 23 1 22, zx 12 24 1 12 13, .o 13 (.store [] 1 (.tmp 24) (.tmp 19)), zx 14 25 1 14 15, .o 15 (.store [] 1 (.tmp 25) (.tmp 23)), .g (.keep [0, 1, 2])]) (.seq (.reg 0 [zm 0 26 1, zd 1 27 .add 26 1, zm 2 28 2, zd 3 29 .sub 28 1, zm 4 10 27, zm 5 11 29, .g (.keep [0, 1, 10, 11])]) (.seq (.block 0 (.loop slices_partitionOrdered_int.b0)) (.seq (.block 2 (.loop slices_partitionOrdered_int.b1)) (.seq (.seq (.reg 0 [zm 0 63 10, zm 1 64 11, za 2 65 .gtr 63 64, .g (.keep [0, 1, 10, 11, 65])]) (.cond (.tmp 65) (.seq (.reg 0 [zm 0 66 0, zm 1 67 11, zm 2 68 0, zm 3 69 1, zm 4 70 0, zm 5 71 1, zx 6 72 1 70 71, zl 7 73 1 72, zm 8 74 0, zm 9 75 11, zx 10 76 1 74 75, zl 11 77 1 76, zx 12 78 1 66 67, .o 13 (.store [] 1 (.tmp 78) (.tmp 73)), zx 14 79 1 68 69, .o 15 (.store [] 1 (.tmp 79) (.tmp 77)), .g (.keep [11])]) (.seq (.reg 0 [zm 0 80 11, zm 1 8 80, zb 2 9 true, .g (.keep [8, 9])]) (.ret))) (.skip))) (.seq (.reg 0 [zm 0 81 0, zm 1 82 10, zm 2 83 0, zm 3 84 11, zm 4 85 0, zm 5 86 11, zx 6 87 1 85 86, zl 7 88 1 87, zm 8 89 0, zm 9 90 10, zx 10 91 1 89 90, zl 11 92 1 91, zx 12 93 1 81 82, .o 13 (.store [] 1 (.tmp 93) (.tmp 88)), zx 14 94 1 83 84, .o 15 (.store [] 1 (.tmp 94) (.tmp 92)), .g (.keep [0, 1, 10, 11])]) (.seq (.reg 0 [zm 0 95 10, zd 1 96 .add 95 1, zm 2 10 96, .g (.keep [0, 1, 10, 11])]) (.seq (.reg 0 [zm 0 97 11, zd 1 98 .sub 97 1, zm 2 11 98, .g (.keep [0, 1, 10, 11])]) (.seq (.block 4 (.loop slices_partitionOrdered_int.b2)) (.seq (.reg 0 [zm 0 153 0, zm 1 154 11, zm 2 155 0, zm 3 156 1, zm 4 157 0, zm 5 158 1, zx 6 159 1 157 158, zl 7 160 1 159, zm 8 161 0, zm 9 162 11, zx 10 163 1 161 162, zl 11 164 1 163, zx 12 165 1 153 154, .o 13 (.store [] 1 (.tmp 165) (.tmp 160)), zx 14 166 1 155 156, .o 15 (.store [] 1 (.tmp 166) (.tmp 164)), .g (.keep [11])]) (.seq (.reg 0 [zm 0 167 11, zm 1 8 167, zb 2 9 false, .g (.keep [8, 9])]) (.ret))))))))))))
def slices_partitionOrdered_int.rs : List Rs := [.sl 8, .sl 9]
theorem slices_partitionOrdered_int.ok : isFn Tryz.prog slices_partitionOrdered_int.id 168 slices_partitionOrdered_int.ann slices_partitionOrdered_int.ir slices_partitionOrdered_int.rs := ⟨Tryz.f145, _, Tryz.func145, rfl, rfl, by kernel_rfl, by kernel_rfl⟩
-- math/bits.Len32
-- math/bits.Len64
def math_bits_Len64.ann : List (Nat × RA) := [(0, rk [0, 2]), (1, rk [0, 2, 4]), (2, rk [0]), (3, rk [0, 2]), (4, rk [0, 2, 8]), (5, rk [0, 2]), (6, rk [0, 2]), (7, rk [0, 2, 14]), (8, rk [0, 2]), (9, rk [0, 2]), (10, rk [2])]
def math_bits_Len64.ir : C := .seq (.reg 0 [zk 0 2 0, .g (.keep [0, 2])]) (.seq (.seq (.reg 0 [zm 0 3 0, .o 1 (.lt (some 4) (.bin .geq (.tmp 3) (.const (.int .u64 4294967296)))), .g (.keep [0, 2, 4])]) (.cond (.tmp 4) (.seq (.reg 0 [zm 0 5 0, .o 1 (.lt (some 6) (.bin .shr (.tmp 5) (.const (.int .u64 32)))), zm 2 0 6, .g (.keep [0])]) (.reg 0 [zk 0 2 32, .g (.keep [0, 2])])) (.skip))) (.seq (.seq (.reg 0 [zm 0 7 0, .o 1 (.lt (some 8) (.bin .geq (.tmp 7) (.const (.int .u64 65536)))), .g (.keep [0, 2, 8])]) (.cond (.tmp 8) (.seq (.reg 0 [zm 0 9 0, .o 1 (.lt (some 10) (.bin .shr (.tmp 9) (.const (.int .u64 16)))), zm 2 0 10, .g (.keep [0, 2])]) (.reg 0 [zm 0 11 2, zd 1 12 .add 11 16, zm 2 2 12, .g (.keep [0, 2])])) (.skip))) (.seq (.seq (.reg 0 [zm 0 13 0, .o 1 (.lt (some 14) (.bin .geq (.tmp 13) (.const (.int .u64 256)))), .g (.keep [0, 2, 14])]) (.cond (.tmp 14) (.seq (.reg 0 [zm 0 15 0, .o 1 (.lt (some 16) (.bin .shr (.tmp 15) (.const (.int .u64 8)))), zm 2 0 16, .g (.keep [0, 2])]) (.reg 0 [zm 0 17 2, zd 1 18 .add 17 8, zm 2 2 18, .g (.keep [0, 2])])) (.skip))) (.seq (.reg 0 [zm 0 19 2, zm 1 20 0, .o 2 (.lt (some 21) (.conv .u8 (.tmp 20))), .o 3 (.lt (some 22) (.ixStr (.const (.string { data := #[0, 1, 2, 2, 3, 3, 3, 3, 4, 4, 4, 4, 4, 4, 4, 4, 5, 5, 5, 5, 5, 5, 5, 5, 5, 5, 5, 5, 5, 5, 5, 5, 6, 6, 6, 6, 6, 6, 6, 6, 6, 6, 6, 6, 6, 6, 6, 6, 6, 6, 6, 6, 6, 6, 6, 6, 6, 6, 6, 6, 6, 6, 6, 6, 7, 7, 7, 7, 7, 7, 7, 7, 7, 7, 7, 7, 7, 7, 7, 7, 7, 7, 7, 7, 7, 7, 7, 7, 7, 7, 7, 7, 7, 7, 7, 7, 7, 7, 7, 7, 7, 7, 7, 7, 7, 7, 7, 7, 7, 7, 7, 7, 7, 7, 7, 7, 7, 7, 7, 7, 7, 7, 7, 7, 7, 7, 7, 7, 8, 8, 8, 8, 8, 8, 8, 8, 8, 8, 8, 8, 8, 8, 8, 8, 8, 8, 8, 8, 8, 8, 8, 8, 8, 8, 8, 8, 8, 8, 8, 8, 8, 8, 8, 8, 8, 8, 8, 8, 8, 8, 8, 8, 8, 8, 8, 8, 8, 8, 8, 8, 8, 8, 8, 8, 8, 8, 8, 8, 8, 8, 8, 8, 8, 8, 8, 8, 8, 8, 8, 8, 8, 8, 8, 8, 8, 8, 8, 8, 8, 8, 8, 8, 8, 8, 8, 8, 8, 8, 8, 8, 8, 8, 8, 8, 8, 8, 8, 8, 8, 8, 8, 8, 8, 8, 8, 8, 8, 8, 8, 8, 8, 8, 8, 8, 8, 8, 8, 8, 8, 8, 8, 8, 8, 8, 8, 8] })) (.tmp 21))), .o 4 (.lt (some 23) (.conv .i64 (.tmp 22))), za 5 24 .add 19 23, zm 6 2 24, .g (.keep [2])]) (.ret)))))
def math_bits_Len64.rs : List Rs := [.sl 2]
theorem math_bits_Len64.ok : isFn Tryz.prog math_bits_Len64.id 25 math_bits_Len64.ann math_bits_Len64.ir math_bits_Len64.rs := ⟨Tryz.f147, _, Tryz.func147, rfl, rfl, by kernel_rfl, by kernel_rfl⟩
-- slices.siftDownOrdered[int]
def slices_siftDownOrdered_int.ann : List (Nat × RA) := [(0, rk [0, 2, 3, 8]), (1, rk [0, 2, 3, 8, 9]), (2, rk [0, 2, 3, 8, 9, 16]), (3, ro [0, 2, 3, 8, 9, 36] [0, 1, 2, 3, 4, 5, 6, 7, 8, 9, 10, 11, 12, 13, 14, 15, 16, 17, 18, 19]), (4, rk [0, 2, 3, 8, 9]), (5, ro [0, 2, 3, 8, 9, 52] [0, 1, 2, 3, 4, 5, 6, 7, 8, 9, 10, 11, 12, 13]), (6, ro [0, 2, 3, 9] [0, 1, 2, 3, 4, 5, 6, 7, 8, 9, 10, 11, 12, 13, 14, 15, 16, 17, 18, 19, 20, 21, 22, 23]), (7, rk [0, 2, 3, 8])]
def slices_siftDownOrdered_int.b0 : C := .block 1 (.seq (.reg 0 [zm 0 11 8, .o 1 (.lt (some 12) (.bin .mul (.const (.int .i64 2)) (.tmp 11))), zd 2 13 .add 12 1, zm 3 9 13, .g (.keep [0, 2, 3, 8, 9])]) (.seq (.seq (.reg 0 [zm 0 14 9, zm 1 15 2, za 2 16 .geq 14 15, .g (.keep [0, 2, 3, 8, 9, 16])]) (.cond (.tmp 16) (.exit 0) (.skip))) (.seq (.seq (.reg 0 [zm 0 17 9, zd 1 18 .add 17 1, zm 2 19 2, za 3 20 .lss 18 19, zm 4 21 20, ym 5 21 true 22 0, ym 6 21 true 23 3, ym 7 21 true 24 9, ya 8 21 true 25 .add 23 24, yx 9 21 true 26 1 22 25, yl 10 21 true 27 1 26, ym 11 21 true 28 0, ym 12 21 true 29 3, ym 13 21 true 30 9, ya 14 21 true 31 .add 29 30, yd 15 21 true 32 .add 31 1, yx 16 21 true 33 1 28 32, yl 17 21 true 34 1 33, .gd 18 21 true (some 35) (.call (some 35) cmp_Less_int.id [(.tmp 27), (.tmp 34)]), zr 19 36 21 35 false, .g (.keep [0, 2, 3, 8, 9, 36])]) (.cond (.tmp 36) (.reg 0 [zm 0 37 9, zd 1 38 .add 37 1, zm 2 9 38, .g (.keep [0, 2, 3, 8, 9])]) (.skip))) (.seq (.seq (.reg 0 [zm 0 39 0, zm 1 40 3, zm 2 41 8, za 3 42 .add 40 41, zx 4 43 1 39 42, zl 5 44 1 43, zm 6 45 0, zm 7 46 3, zm 8 47 9, za 9 48 .add 46 47, zx 10 49 1 45 48, zl 11 50 1 49, .o 12 (.call (some 51) cmp_Less_int.id [(.tmp 44), (.tmp 50)]), zq 13 52 51, .g (.keep [0, 2, 3, 8, 9, 52])]) (.cond (.tmp 52) (.ret) (.skip))) (.seq (.reg 0 [zm 0 53 0, zm 1 54 3, zm 2 55 8, za 3 56 .add 54 55, zm 4 57 0, zm 5 58 3, zm 6 59 9, za 7 60 .add 58 59, zm 8 61 0, zm 9 62 3, zm 10 63 9, za 11 64 .add 62 63, zx 12 65 1 61 64, zl 13 66 1 65, zm 14 67 0, zm 15 68 3, zm 16 69 8, za 17 70 .add 68 69, zx 18 71 1 67 70, zl 19 72 1 71, zx 20 73 1 53 56, .o 21 (.store [] 1 (.tmp 73) (.tmp 66)), zx 22 74 1 57 60, .o 23 (.store [] 1 (.tmp 74) (.tmp 72)), .g (.keep [0, 2, 3, 9])]) (.reg 0 [zm 0 75 9, zm 1 8 75, .g (.keep [0, 2, 3, 8])]))))))
def slices_siftDownOrdered_int.ir : C := .seq (.reg 0 [zm 0 10 1, zm 1 8 10, .g (.keep [0, 2, 3, 8])]) (.block 0 (.loop slices_siftDownOrdered_int.b0))
def slices_siftDownOrdered_int.rs : List Rs := []
theorem slices_siftDownOrdered_int.ok : isFn Tryz.prog slices_siftDownOrdered_int.id 76 slices_siftDownOrdered_int.ann slices_siftDownOrdered_int.ir slices_siftDownOrdered_int.rs := ⟨Tryz.f148, _, Tryz.func148, rfl, rfl, by kernel_rfl, by kernel_rfl⟩
-- slices.nextPowerOfTwo
def slices_nextPowerOfTwo.ann : List (Nat × RA) := [(0, rk [0]), (1, rk [2])]
def slices_nextPowerOfTwo.ir : C := .seq (.reg 0 [.o 0 (.lt (some 2) (.mov (.const (.int .u64 0)))), .g (.keep [0])]) (.seq (.reg 0 [zm 0 3 0, .o 1 (.lt (some 4) (.conv .u64 (.tmp 3))), .o 2 (.call (some 5) math_bits_Len.id [(.tmp 4)]), .o 3 (.lt (some 6) (.bin .shl (.const (.int .u64 1)) (.tmp 5))), zm 4 2 6, .g (.keep [2])]) (.ret))
def slices_nextPowerOfTwo.rs : List Rs := [.sl 2]
theorem slices_nextPowerOfTwo.ok : isFn Tryz.prog slices_nextPowerOfTwo.id 7 slices_nextPowerOfTwo.ann slices_nextPowerOfTwo.ir slices_nextPowerOfTwo.rs := ⟨Tryz.f149, _, Tryz.func149, rfl, rfl, by kernel_rfl, by kernel_rfl⟩
-- (*slices.xorshift).Next
def slices_xorshift_Next.ann : List (Nat × RA) := [(0, rk [0]), (1, ro [0] [0, 1, 2, 3, 4, 5, 6, 7, 8, 9]), (2, ro [0] [0, 1, 2, 3, 4, 5, 6, 7, 8, 9]), (3, ro [0] [0, 1, 2, 3, 4, 5, 6, 7, 8, 9]), (4, rk [2])]
def slices_xorshift_Next.ir : C := .seq (.reg 0 [.o 0 (.lt (some 2) (.mov (.const (.int .u64 0)))), .g (.keep [0])]) (.seq (.reg 0 [zm 0 3 0, zc 1 4 3, zl 2 5 1 4, zm 3 6 0, zc 4 7 6, zl 5 8 1 7, .o 6 (.lt (some 9) (.bin .shl (.tmp 8) (.const (.int .u64 13)))), za 7 10 .xor 5 9, zc 8 11 3, .o 9 (.store [] 1 (.tmp 11) (.tmp 10)), .g (.keep [0])]) (.seq (.reg 0 [zm 0 12 0, zc 1 13 12, zl 2 14 1 13, zm 3 15 0, zc 4 16 15, zl 5 17 1 16, .o 6 (.lt (some 18) (.bin .shr (.tmp 17) (.const (.int .u64 7)))), za 7 19 .xor 14 18, zc 8 20 12, .o 9 (.store [] 1 (.tmp 20) (.tmp 19)), .g (.keep [0])]) (.seq (.reg 0 [zm 0 21 0, zc 1 22 21, zl 2 23 1 22, zm 3 24 0, zc 4 25 24, zl 5 26 1 25, .o 6 (.lt (some 27) (.bin .shl (.tmp 26) (.const (.int .u64 17)))), za 7 28 .xor 23 27, zc 8 29 21, .o 9 (.store [] 1 (.tmp 29) (.tmp 28)), .g (.keep [0])]) (.seq (.reg 0 [zm 0 30 0, zc 1 31 30, zl 2 32 1 31, zm 3 2 32, .g (.keep [2])]) (.ret)))))
def slices_xorshift_Next.rs : List Rs := [.sl 2]
theorem slices_xorshift_Next.ok : isFn Tryz.prog slices_xorshift_Next.id 33 slices_xorshift_Next.ann slices_xorshift_Next.ir slices_xorshift_Next.rs := ⟨Tryz.f150, _, Tryz.func150, rfl, rfl, by kernel_rfl, by kernel_rfl⟩
-- slices.medianAdjacentOrdered[int]
def slices_medianAdjacentOrdered_int.ann : List (Nat × RA) := [(0, rk [0, 1, 2]), (1, rp [6] [(7, [1000000])])]
def slices_medianAdjacentOrdered_int.ir : C := .seq (.reg 0 [zk 0 6 0, .g (.keep [0, 1, 2])]) (.seq (.reg 0 [zm 0 7 0, zm 1 8 1, zd 2 9 .sub 8 1, zm 3 10 1, zm 4 11 1, zd 5 12 .add 11 1, zm 6 13 2, .o 7 (.callm (some 14) (.func slices_medianOrdered_int.id) [(.tmp 7), (.tmp 9), (.tmp 10), (.tmp 12), (.tmp 13)]), zm 8 6 14, .g (.keep [6])]) (.ret))
def slices_medianAdjacentOrdered_int.rs : List Rs := [.sl 6]
theorem slices_medianAdjacentOrdered_int.ok : isFn Tryz.prog slices_medianAdjacentOrdered_int.id 15 slices_medianAdjacentOrdered_int.ann slices_medianAdjacentOrdered_int.ir slices_medianAdjacentOrdered_int.rs := ⟨Tryz.f151, _, Tryz.func151, rfl, rfl, by kernel_rfl, by kernel_rfl⟩
-- slices.medianOrdered[int]
def slices_medianOrdered_int.ann : List (Nat × RA) := [(0, rk [0, 1, 2, 3, 4]), (1, rp [0, 1, 2, 3, 4] [(4, [1000000])]), (2, rp [0, 1, 2, 4] [(4, [1000000])]), (3, rp [2] [(4, [1000000])]), (4, rk [10])]
def slices_medianOrdered_int.ir : C := .seq (.reg 0 [zk 0 10 0, .g (.keep [0, 1, 2, 3, 4])]) (.seq (.reg 0 [zm 0 12 0, zm 1 13 1, zm 2 14 2, zm 3 15 4, .o 4 (.callm (some 16) (.func slices_order2Ordered_int.id) [(.tmp 12), (.tmp 13), (.tmp 14), (.tmp 15)]), zm 5 11 16, ze 6 17 11 0, ze 7 18 11 1, zm 8 1 17, zm 9 2 18, .g (.keep [0, 1, 2, 3, 4])]) (.seq (.reg 0 [zm 0 20 0, zm 1 21 2, zm 2 22 3, zm 3 23 4, .o 4 (.callm (some 24) (.func slices_order2Ordered_int.id) [(.tmp 20), (.tmp 21), (.tmp 22), (.tmp 23)]), zm 5 19 24, ze 6 25 19 0, ze 7 26 19 1, zm 8 2 25, zm 9 3 26, .g (.keep [0, 1, 2, 4])]) (.seq (.reg 0 [zm 0 28 0, zm 1 29 1, zm 2 30 2, zm 3 31 4, .o 4 (.callm (some 32) (.func slices_order2Ordered_int.id) [(.tmp 28), (.tmp 29), (.tmp 30), (.tmp 31)]), zm 5 27 32, ze 6 33 27 0, ze 7 34 27 1, zm 8 1 33, zm 9 2 34, .g (.keep [2])]) (.seq (.reg 0 [zm 0 35 2, zm 1 10 35, .g (.keep [10])]) (.ret)))))
def slices_medianOrdered_int.rs : List Rs := [.sl 10]
theorem slices_medianOrdered_int.ok : isFn Tryz.prog slices_medianOrdered_int.id 36 slices_medianOrdered_int.ann slices_medianOrdered_int.ir slices_medianOrdered_int.rs := ⟨Tryz.f152, _, Tryz.func152, rfl, rfl, by kernel_rfl, by kernel_rfl⟩
-- cmp.isNaN[int]
def cmp_isNaN_int.ann : List (Nat × RA) := [(0, rk [0]), (1, rk [2])]
def cmp_isNaN_int.ir : C := .seq (.reg 0 [zb 0 2 false, .g (.keep [0])]) (.seq (.reg 0 [zm 0 3 0, zm 1 4 0, za 2 5 .neq 3 4, zm 3 2 5, .g (.keep [2])]) (.ret))
def cmp_isNaN_int.rs : List Rs := [.sl 2]
theorem cmp_isNaN_int.ok : isFn Tryz.prog cmp_isNaN_int.id 6 cmp_isNaN_int.ann cmp_isNaN_int.ir cmp_isNaN_int.rs := ⟨Tryz.f153, _, Tryz.func153, rfl, rfl, by kernel_rfl, by kernel_rfl⟩
-- slices.order2Ordered[int]
def slices_order2Ordered_int.ann : List (Nat × RA) := [(0, rk [0, 1, 2, 3]), (1, ro [1, 2, 3, 18] [0, 1, 2, 3, 4, 5, 6, 7, 8]), (2, rk [1, 2]), (3, rk [8, 9]), (4, rk [8, 9])]
def slices_order2Ordered_int.ir : C := .seq (.reg 0 [zk 0 8 0, zk 1 9 0, .g (.keep [0, 1, 2, 3])]) (.seq (.seq (.reg 0 [zm 0 10 0, zm 1 11 2, zx 2 12 1 10 11, zl 3 13 1 12, zm 4 14 0, zm 5 15 1, zx 6 16 1 14 15, zl 7 17 1 16, .o 8 (.call (some 18) cmp_Less_int.id [(.tmp 13), (.tmp 17)]), .g (.keep [1, 2, 3, 18])]) (.cond (.tmp 18) (.seq (.reg 0 [zm 0 19 3, zc 1 20 19, zl 2 21 1 20, zd 3 22 .add 21 1, zc 4 23 19, .o 5 (.store [] 1 (.tmp 23) (.tmp 22)), .g (.keep [1, 2])]) (.seq (.reg 0 [zm 0 24 2, zm 1 25 1, zm 2 8 24, zm 3 9 25, .g (.keep [8, 9])]) (.ret))) (.skip))) (.seq (.reg 0 [zm 0 26 1, zm 1 27 2, zm 2 8 26, zm 3 9 27, .g (.keep [8, 9])]) (.ret)))
def slices_order2Ordered_int.rs : List Rs := [.sl 8, .sl 9]
theorem slices_order2Ordered_int.ok : isFn Tryz.prog slices_order2Ordered_int.id 28 slices_order2Ordered_int.ann slices_order2Ordered_int.ir slices_order2Ordered_int.rs := ⟨Tryz.f154, _, Tryz.func154, rfl, rfl, by kernel_rfl, by kernel_rfl⟩
end Go.Abs.G
