import Derived.Test.YtkfpoacloidepaaAbsJa
set_option linter.all false
/- Operations with an effect; calls. -/
namespace Go.Abs
set_option linter.unusedVariables false

def RVs (c : Cx) (vs : Array Value) (xs : List V) : Prop :=
  vs.size = xs.length ∧ ∀ (i : Nat) (v : Value) (x : V), vs[i]? = some v → xs[i]? = some x → RV c v x

/-- A call of function f with such values, over such objects: it returns, and Q tells what and over what. -/
def DC (P : Program) (f : FuncId) (xs : List V) (H : Heap) (Q : V → Heap → Prop) : Prop :=
  ∀ (w : World) (β : Nat → Hd) (F : Nat → Prop) (vs : Array Value), HOK w.heap H β F → RVs (cx w.heap H β F) vs xs →
    Calls P f vs w fun e w' => ∃ r x H' β', e = .returned r ∧ Adv F w H β w' H' β' ∧ RV (cx w'.heap H' β' F) r x ∧ Q x H'

theorem DC.mono {P : Program} {f : FuncId} {xs : List V} {H : Heap} {Q Q' : V → Heap → Prop} (h : DC P f xs H Q) (hq : ∀ x H', Q x H' → Q' x H') : DC P f xs H Q' :=
  fun w β F vs hk hr => (h w β F vs hk hr).mono fun e w' ⟨r, x, H', β', h1, h2, h3, h4⟩ => ⟨r, x, H', β', h1, h2, h3, hq _ _ h4⟩

/-- A call that owns nothing of others, its result frozen. -/
def DP (P : Program) (f : FuncId) (xs : List V) (Q : V → Prop) : Prop := DC P f xs [] fun x H => x.fzP H ∧ Q (x.fz H)

theorem DP.mono {P : Program} {f : FuncId} {xs : List V} {Q Q' : V → Prop} (h : DP P f xs Q) (hq : ∀ x, Q x → Q' x) : DP P f xs Q' :=
  DC.mono h fun x H' ⟨h1, h2⟩ => ⟨h1, hq _ h2⟩

/-- A call that gives just this. -/
def Pf (P : Program) (f : FuncId) (xs : List V) (r : V) : Prop := DP P f xs fun x => x = r

theorem Pf.use {P : Program} {f : FuncId} {xs : List V} {r : V} {Q : V → Prop} (h : Pf P f xs r) (hq : Q r) : DP P f xs Q := DP.mono h fun x e => e ▸ hq

inductive I where
  | lt (d : Option Nat) (l : L)
  | frz (t : Nat)                                                  -- of ours: what a slot holds is frozen
  | nilv (t es : Nat)                                              -- of ours: a nil slice is a slice without elements
  | nilo (t es r : Nat)                                            -- of ours: a nil slice is one of our own
  | keep (ts : List Nat)                                           -- of ours: other slots are forgotten
  | store (ap : List Nat) (n : Nat) (x v : Operand)
  | alloc (d : Option Nat) (k n : Nat) (zero : List V)
  | box (d : Option Nat) (k n : Nat) (x : Operand)
  | bsl (d : Option Nat) (k es n : Nat) (zero : List V) (parts : List (Nat × Operand))
  | app (ap : List Nat) (d : Option Nat) (r es bytes : Nat) (x y : Operand)
  | call (d : Option Nat) (f : FuncId) (xs : List Operand)
  | callv (d : Option Nat) (fv : Operand) (xs : List Operand)
  | callm (d : Option Nat) (fv : Operand) (xs : List Operand)       -- a call that is handed objects, which it may change; its result isn't frozen
  | callb (d : Option Nat) (fv : Operand) (xs : List Operand)       -- a call that is lent objects: it reads them only, and its result has nothing of them
  | callo (d : Option Nat) (fv : Operand) (xs : List Operand)       -- a call that is handed no objects, its result not frozen
  | mkm (d : Option Nat) (r : Nat)                                  -- a new map
  | mup (ap : List Nat) (kd : IntKind) (m key v : Operand)          -- an entry of a map set
  | rng (d : Option Nat) (r : Nat) (x : Operand)                    -- a walk over a text begins
  | nxt (d : Option Nat) (x : Operand)                              -- its next step
  deriving Inhabited

mutual
/-- Nothing of memory. -/
def V.flat : V → Bool
  | .a _ => true
  | .any => true
  | .agg cs => V.flatL cs
  | .tup vs => V.flatL vs
  | _ => false
def V.flatL : List V → Bool
  | [] => true
  | x :: xs => x.flat && V.flatL xs
end

theorem flatL_get : ∀ {l : List V} {i : Nat} {x : V}, V.flatL l = true → l[i]? = some x → x.flat = true := by
  intro l
  induction l with
  | nil => intro i x _ h; simp at h
  | cons y l ih =>
    intro i x h hx
    simp only [V.flatL, Bool.and_eq_true] at h
    cases i with
    | zero => simp at hx; subst hx; exact h.1
    | succ i => exact ih h.2 (by simpa using hx)

theorem RV.flat {c c' : Cx} {v : Value} {x : V} (h : RV c v x) (hf : x.flat = true) : RV c' v x := by
  induction h with
  | any => exact .any
  | a => exact .a
  | agg hl h1 h ih => exact .agg hl h1 fun i v x e1 e2 => ih i v x e1 e2 (flatL_get (by simpa [V.flat] using hf) e2)
  | tup hl h ih => exact .tup hl fun i v x e1 e2 => ih i v x e1 e2 (flatL_get (by simpa [V.flat] using hf) e2)
  | _ => simp [V.flat] at hf

/-- The object that a value is an address in, or a slice of. -/
def V.oid : V → Option Nat
  | .ptr id _ _ _ => some id
  | .own id _ _ _ _ => some id
  | .mp id => some id
  | _ => none

def V.rowIds (H : Heap) : V → List Nat
  | .own id _ _ _ _ => (H.getD id .dead).refs
  | _ => []

def chunk (es : Nat) : Nat → List V → List (List V)
  | 0, _ => []
  | n + 1, l => l.take es :: chunk es n (l.drop es)

def addAll (l : List Nat) : List Nat → List Nat
  | [] => l
  | i :: is => addAll (if i ∈ l then l else l ++ [i]) is
/-- The objects that are reached. -/
def clos (H : Heap) : Nat → List Nat → List Nat
  | 0, l => l
  | n + 1, l => clos H n (addAll l (l.flatMap fun i => (H.getD i .dead).refs))

def okFunc (P : Program) (f : FuncId) : Bool :=
  match P.funcs[f]? with
  | some fn => fn.name != "runtime.NumGoroutine" && fn.body.isSome
  | none => false

/-- What the operation asks and leaves. -/
def I.vc (P : Program) (i : I) (k : St → Prop) (st : St) : Prop :=
  match i with
  | .lt d l => l.pre st ∧ k (st.put d (l.val st))
  | .frz t => (if (gt st.sl t).ids = [] then k st else (gt st.sl t).fzP st.hp ∧ k { st with sl := up st.sl t ((gt st.sl t).fz st.hp), hp := st.hp.fz (gt st.sl t).ids })
  | .nilv t es => k { st with sl := up st.sl t (if (gt st.sl t).nilSl then .view es [] else gt st.sl t) }
  | .nilo t es r => match gt st.sl t with
    | .a (.slice none 0 0) => st.hp[st.bs + r]? = some .res ∧ k { st with sl := up st.sl t (.own (st.bs + r) es 0 0 0), hp := st.hp.set (st.bs + r) (.mem false [] []) }
    | _ => k st
  | .keep ts => k { st with sl := keepS st.sl ts }
  | .store ap n x v => match st.ev x with
    | .ptr id tot i j => match st.hp.getD id .dead with
      | .mem false refs rows => (∀ t ∈ ap, (gt st.sl t).oid ≠ some id) ∧ rows.length = tot ∧ i < tot ∧ j + n ≤ (rows.getD i []).length ∧ (st.ev v).sized st.hp n ∧
          k { st with hp := st.hp.set id (.mem false (addRefs refs (V.idsL (st.ev v).cells)) (rows.set i (rowSet (rows.getD i []) j (st.ev v).cells))) }
      | _ => False
    | _ => False
  | .alloc d r n zero => st.hp[st.bs + r]? = some .res ∧ zero.length = n ∧ k ({ st with hp := st.hp.set (st.bs + r) (.mem false [] [zero]) }.put d (.ptr (st.bs + r) 1 0 0))
  | .box d r n x => st.hp[st.bs + r]? = some .res ∧ (st.ev x).sized st.hp n ∧
      k ({ st with hp := st.hp.set (st.bs + r) (.mem false (V.idsL (st.ev x).cells) [(st.ev x).cells]) }.put d (.ptr (st.bs + r) 1 0 0))
  | .bsl d r es n zero parts => st.hp[st.bs + r]? = some .res ∧ zero.length = es ∧ (∀ p ∈ parts, (st.ev p.2).sized st.hp es ∧ p.1 < n) ∧
      k ({ st with hp := st.hp.set (st.bs + r) (.mem false (V.idsL (fillV (List.flatten (List.replicate n zero)) (parts.map fun (p : Nat × Operand) => (p.1 * es, es, st.ev p.2)))) (chunk es n (fillV (List.flatten (List.replicate n zero)) (parts.map fun (p : Nat × Operand) => (p.1 * es, es, st.ev p.2))))) }.put d (.own (st.bs + r) es 0 n n))
  | .app ap d r es bytes x y => match st.ev x with
    | .own id es' off len tot => match st.hp.getD id .dead with
      | .mem false refs rows => (∀ t ∈ ap, (gt st.sl t).oid ≠ some id) ∧ es' = es ∧ rows.length = tot ∧ off + len = tot ∧ okSl st.hp (st.ev y) ∧ (st.ev y).slEs es ∧ ((len : Int) + (st.ev y).slLen) * bytes ≤ 140737488355328 ∧
          k ({ st with hp := st.hp.set id (.mem false (addRefs refs ((st.ev y).rowIds st.hp)) (rows ++ (st.ev y).rowsOf st.hp)) }.put d (.own id es off (len + ((st.ev y).rowsOf st.hp).length) (tot + ((st.ev y).rowsOf st.hp).length)))
      | _ => False
    | .a (.slice none 0 0) => st.hp[st.bs + r]? = some .res ∧ okSl st.hp (st.ev y) ∧ (st.ev y).slEs es ∧ (st.ev y).slLen * bytes ≤ 140737488355328 ∧
          k ({ st with hp := st.hp.set (st.bs + r) (.mem false ((st.ev y).rowIds st.hp) ((st.ev y).rowsOf st.hp)) }.put d (.own (st.bs + r) es 0 ((st.ev y).rowsOf st.hp).length ((st.ev y).rowsOf st.hp).length))
    | _ => False
  | .call d f xs => V.idsL (xs.map st.ev) = [] ∧ DP P f (xs.map st.ev) fun r => k (st.put d r)
  | .callm d fv xs => match st.ev fv with
    | .fn (.func f) fs cs => okFunc P f = true ∧ OkSel st.hp (clos st.hp 8 (addAll [] (V.idsL (fs ++ xs.map st.ev ++ cs)))) ∧
        DC P f (V.renL (idx (clos st.hp 8 (addAll [] (V.idsL (fs ++ xs.map st.ev ++ cs))))) (fs ++ xs.map st.ev ++ cs)) (sub st.hp (clos st.hp 8 (addAll [] (V.idsL (fs ++ xs.map st.ev ++ cs))))) fun r H' =>
          k ({ st with hp := merge st.hp (clos st.hp 8 (addAll [] (V.idsL (fs ++ xs.map st.ev ++ cs)))) H' }.put d (r.ren (back (clos st.hp 8 (addAll [] (V.idsL (fs ++ xs.map st.ev ++ cs)))) st.hp.length)))
    | _ => False
  | .callb d fv xs => match st.ev fv with
    | .fn (.func f) fs cs => okFunc P f = true ∧ V.fzPL st.hp (fs ++ xs.map st.ev ++ cs) ∧ DP P f (V.fzL st.hp (fs ++ xs.map st.ev ++ cs)) fun r => r.flat = true ∧ k (st.put d r)
    | _ => False
  | .callo d fv xs => match st.ev fv with
    | .fn (.func f) fs cs => okFunc P f = true ∧ V.idsL (fs ++ xs.map st.ev ++ cs) = [] ∧ DC P f (fs ++ xs.map st.ev ++ cs) [] fun r H' => k ({ st with hp := st.hp ++ H'.map (O.ren (st.hp.length + ·)) }.put d (r.ren (st.hp.length + ·)))
    | _ => False
  | .mkm d r => st.hp[st.bs + r]? = some .res ∧ k ({ st with hp := st.hp.set (st.bs + r) (.map false [] []) }.put d (.mp (st.bs + r)))
  | .mup ap kd m key v => match st.ev m with
    | .mp id => match st.hp.getD id .dead with
      | .map false refs es => (∀ t ∈ ap, (gt st.sl t).oid ≠ some id) ∧ (∀ e ∈ es, e.1.isKey kd = true) ∧ (st.ev key).isKey kd = true ∧
          k { st with hp := st.hp.set id (.map false (addRefs refs (V.idsL [st.ev v])) (putE es (st.ev key) (st.ev v))) }
      | _ => False
    | _ => False
  | .rng d r x => st.hp[st.bs + r]? = some .res ∧ (st.ev x).isStr = true ∧ k ({ st with hp := st.hp.set (st.bs + r) (.sit (st.ev x).txt 0) }.put d (.ptr (st.bs + r) 0 0 0))
  | .nxt d x => match st.ev x with
    | .ptr id 0 0 0 => match st.hp.getD id .dead with
      | .sit s pos => if pos < s.size then k ({ st with hp := st.hp.set id (.sit s (pos + (Utf8.decode s pos).2)) }.put d (.tup [.bool true, .int .i64 pos, .int .i32 (Utf8.decode s pos).1]))
          else k (st.put d (.tup [.bool false]))
      | _ => False
    | _ => False
  | .callv d fv xs => match st.ev fv with
    | .fn (.func f) fs cs => okFunc P f = true ∧ V.idsL (fs ++ xs.map st.ev ++ cs) = [] ∧ DP P f (fs ++ xs.map st.ev ++ cs) fun r => k (st.put d r)
    | _ => False

def cmpMup (P : Program) (o : Oper) (ap : List Nat) (t : TypeId) (m k v : Operand) : Option I :=
  match P.underlying t with
  | some (.map kt _) => match P.underlying kt with
    | some (.int kd) => if o.dst = none then some (.mup ap kd m k v) else none
    | _ => none
  | _ => none

def cmpRng (P : Program) (o : Oper) (r : Nat) (t : TypeId) (x : Operand) : Option I :=
  match P.underlying t with
  | some .string => some (.rng o.dst r x)
  | _ => none

def cmpBsl (P : Program) (o : Oper) (r : Nat) (t : TypeId) (len : Nat) (parts : Array (Nat × Operand)) : Option I :=
  match P.underlying t with
  | some (.slice e) => (P.info? e).bind fun i => i.zero.bind fun z =>
    if z.cells.size = i.size ∧ 0 < i.size ∧ len * i.size ≤ 16777216 ∧ z.cells.toList.all (·.oneCell') then some (.bsl o.dst r i.size len (z.cells.toList.map .a) parts.toList) else none
  | _ => none

def isApp : Builtin → Bool
  | .append => true
  | _ => false

/-- append's types: of what it is laid on, of what is laid on. -/
def cmpApp (P : Program) (o : Oper) (r : Nat) (ap : List Nat) (args : Array Operand) (argTypes : Array TypeId) : Option I :=
  (argTypes[0]?).bind fun t => (argTypes[1]?).bind fun t2 => (args[0]?).bind fun x => (args[1]?).bind fun y =>
  match P.underlying t, P.underlying t2 with
  | some (.slice e), some (.slice _) => (P.info? e).bind fun i => i.zero.bind fun z => if z.cells.size = i.size ∧ 0 < i.size ∧ 0 < i.bytes then some (.app ap o.dst r i.size i.bytes x y) else none
  | _, _ => none

/-- Does the IR's operation stand for the program's? -/
def cmpI (P : Program) (o : Oper) (r : Nat) (ap : List Nat) : Option I :=
  match o.op with
  | .store t x v => (P.info? t).bind fun i => some (.store ap i.size x v)
  | .alloc t => (P.info? t).bind fun i => i.zero.bind fun z => if z.cells.size = i.size ∧ z.cells.toList.all (·.oneCell') then some (.alloc o.dst r i.size (z.cells.toList.map .a)) else none
  | .box t x => (P.info? t).bind fun i => some (.box o.dst r i.size x)
  | .buildSlice t len parts => cmpBsl P o r t len parts
  | .call c => match c.callee with
    | .value (.func f) => if okFunc P f then some (.call o.dst f c.args.toList) else none
    | .value fv => some (.callv o.dst fv c.args.toList)
    | .builtin b => if isApp b then cmpApp P o r ap c.args c.argTypes else (cmpL P o.op).map (.lt o.dst)
    | _ => none
  | .makeMap _ none => some (.mkm o.dst r)
  | .mapUpdate t m k v => cmpMup P o ap t m k v
  | .insert t m k v => cmpMup P o ap t m k v
  | .range t x => cmpRng P o r t x
  | .next it str => if str then some (.nxt o.dst it) else none
  | _ => (cmpL P o.op).map (.lt o.dst)

/-- The same, of a call that changes what it is handed. -/
def cmpM (b : Nat) (o : Oper) : Option I :=
  match o.op with
  | .call c => match c.callee with
    | .value fv => some (match b with | 0 => .callm o.dst fv c.args.toList | 1 => .callb o.dst fv c.args.toList | _ => .callo o.dst fv c.args.toList)
    | _ => none
  | _ => none

section
variable {P : Program} {w : World} {β : Nat → Hd} {F : Nat → Prop} {N : Nat} {st : St} {a : Act}

/-- What comes behind an operation. -/
def Then (P : Program) (F : Nat → Prop) (N : Nat) (w : World) (st : St) (β : Nat → Hd) (k : St → Prop) : Act → World → Prop :=
  fun a' w' => ∃ β' st', (Adv F w st.hp β w' st'.hp β' ∧ Rel w' β' F N st' a' ∧ st.hp.length ≤ st'.hp.length) ∧ k st'

theorem upon_value {o : Oper} {v : Value} {w' : World} {s : Sem Value} {next : Act → World → Prop} {Q : Exit → Act → World → Prop}
    (hs : execOp a.eval o = (do pure (Next.value (← s)))) (hr : s.run P w = .ok v w') (h : next (a.put o.dst v) w') : o.wp P a w next Q := by
  unfold Oper.wp
  rw [hs]
  simp only [Sem.run_bind, hr, Result.andThen_ok, Sem.run_pure]
  exact h

theorem upon_skip {o : Oper} {w' : World} {s : Sem Unit} {next : Act → World → Prop} {Q : Exit → Act → World → Prop}
    (hs : execOp a.eval o = (do s; pure Next.skip)) (hr : s.run P w = .ok () w') (h : next (a.put o.dst undef) w') : o.wp P a w next Q := by
  unfold Oper.wp
  rw [hs]
  simp only [Sem.run_bind, hr, Result.andThen_ok, Sem.run_pure]
  exact h

theorem run_isLight {o : Oper} {l : L} (hR : Rel w β F N st a) (hc : cmpL P o.op = some l) (hd : ∀ t, o.dst = some t → t < N) {k : St → Prop} (h : (I.lt o.dst l).vc P k st) (Q : Exit → Act → World → Prop) :
    o.wp P a w (Then P F N w st β k) Q := by
  obtain ⟨h1, h2⟩ := h
  obtain ⟨v, e, r⟩ := L.sound hR hc h1
  unfold Oper.wp
  rw [e]
  have : (st.put o.dst (l.val st)).hp = st.hp := by unfold St.put; split <;> rfl
  refine ⟨β, _, ⟨?_, hR.put hd r, by rw [this]; exact Nat.le_refl _⟩, h2⟩
  rw [this]
  exact ⟨hR.hok, .refl _, .refl _ _⟩

theorem put_hp (st : St) (d : Option Nat) (x : V) : (st.put d x).hp = st.hp := by unfold St.put; split <;> rfl

theorem sound_store {o : Oper} {t : TypeId} {x v : Operand} {i : TypeInfo} {ap : List Nat} (hR : Rel w β F N st a) (ho : o.op = .store t x v) (hi : P.info? t = some i) (hd : o.dst = none) {k : St → Prop}
    (h : (I.store ap i.size x v).vc P k st) (Q : Exit → Act → World → Prop) : o.wp P a w (Then P F N w st β k) Q := by
  have hk := hR.hok
  simp only [I.vc] at h
  split at h
  · next id tot i0 j e =>
    split at h
    · next refs rows hgd =>
      obtain ⟨_, p1, p2, p3, p4, p5⟩ := h
      have hid : st.hp[id]? = some (.mem false refs rows) := by
        cases hq : st.hp[id]? with
        | none => simp [List.getD, hq] at hgd
        | some o => rw [getD_some hq] at hgd; rw [hgd]
      have hx := hR.ev x
      rw [e] at hx
      cases hx' : a.eval x with
      | _ => ?_
      all_goals
        rw [hx'] at hx
        cases hx with
        | ptr hl h =>
        obtain ⟨g1, g2⟩ := h ((β id).wt rows.length) (by show hdOf st.hp β id = _; simp [hdOf, hid])
        obtain ⟨g3, g4, g5⟩ := g2 p1
        obtain ⟨s1, s2, s3, s4⟩ := (hR.ev v).sized hk p4
        obtain ⟨w', r1, r2⟩ := wr_mem (P := P) (id := id) (i := i0) (j := j) (xs := (st.ev v).cells) (vs := (a.eval v).cells.toList) hk hid (get_of_getD (d := []) (by omega)) g3 (by rw [s2]; exact p3) (by simp [s1, s2])
          (fun u hu => by obtain ⟨q, hq⟩ := List.getElem?_of_mem hu; exact s4 q u (by simpa using hq)) (fun q u y hu hy => s3 q u y (by simpa using hu) hy)
        refine upon_skip (s := Instr.storeAt t (a.eval x) (a.eval v)) (by obtain ⟨dst, op, ty, pos, af, gu⟩ := o; simp only at ho; subst ho; rfl) (w' := w') ?_ ⟨β, _, ⟨r2, ?_, by simp⟩, p5⟩
        · rw [hx', g5]
          simp only [Instr.storeAt, Instr.sureAddr, storeVar, Sem.run_bind, Sem.run_pure, Result.andThen_ok, run_sizeOf' hi]
          rw [if_neg (by rw [s1]; simp)]
          exact r1
        · rw [hd]; exact hR.adv r2
    · exact h.elim
  · exact h.elim

theorem fresh_ptr {H : Heap} {id es n : Nat} {refs : List Nat} {rows : List (List V)} {b : Nat} (hid : H[id]? = some .res) {hp : Array Obj} {F : Nat → Prop} {β : Nat → Hd} (hn : rows.length = n) :
    RV (cx hp (H.set id (.mem false refs rows)) (upd β id ⟨b, 0, n, es, 0, false, 0⟩) F) (.pointer (some ⟨b, 0, none⟩)) (.ptr id n 0 0) := by
  refine .ptr ⟨_, get_set hid, by simp⟩ fun h e => ?_
  have e1 : hdOf (H.set id (.mem false refs rows)) (upd β id ⟨b, 0, n, es, 0, false, 0⟩) id = some ((upd β id ⟨b, 0, n, es, 0, false, 0⟩ id).wt rows.length) := by
    unfold hdOf; rw [get_set hid]
  have e2 : some h = some ((upd β id ⟨b, 0, n, es, 0, false, 0⟩ id).wt rows.length) := e.symm.trans e1
  injection e2 with e2
  subst e2
  rw [upd_same]
  exact ⟨by show n ≤ rows.length; omega, fun _ => ⟨Nat.zero_le _, rfl, by simp [Hd.wt]⟩⟩

theorem fresh_own {H : Heap} {id es n : Nat} {refs : List Nat} {rows : List (List V)} {b : Nat} (hid : H[id]? = some .res) {hp : Array Obj} {F : Nat → Prop} {β : Nat → Hd} (hn : rows.length = n) :
    RV (cx hp (H.set id (.mem false refs rows)) (upd β id ⟨b, 0, n, es, 0, false, 0⟩) F) (.slice (some ⟨b, 0, none⟩) n n) (.own id es 0 n n) := by
  refine .own ⟨_, get_set hid, by simp⟩ fun h e => ?_
  have e1 : hdOf (H.set id (.mem false refs rows)) (upd β id ⟨b, 0, n, es, 0, false, 0⟩) id = some ((upd β id ⟨b, 0, n, es, 0, false, 0⟩ id).wt rows.length) := by
    unfold hdOf; rw [get_set hid]
  have e2 : some h = some ((upd β id ⟨b, 0, n, es, 0, false, 0⟩ id).wt rows.length) := e.symm.trans e1
  injection e2 with e2
  subst e2
  rw [upd_same]
  exact ⟨by show n ≤ rows.length; omega, fun _ => ⟨Nat.zero_le _, rfl, .inr ⟨rfl, _, rfl, by show 0 + n ≤ rows.length; omega, fun _ => by simp [Hd.wt]⟩⟩⟩

theorem sound_alloc {o : Oper} {t : TypeId} {i : TypeInfo} {z : Value} {r : Nat} (hR : Rel w β F N st a) (ho : o.op = .alloc t) (hi : P.info? t = some i) (hz : i.zero = some z) (hsz : z.cells.size = i.size)
    (hone : z.cells.toList.all (·.oneCell')) (hd : ∀ t, o.dst = some t → t < N) {k : St → Prop} (h : (I.alloc o.dst r i.size (z.cells.toList.map .a)).vc P k st) (Q : Exit → Act → World → Prop) :
    o.wp P a w (Then P F N w st β k) Q := by
  have hk := hR.hok
  obtain ⟨p1, p2, p3⟩ := h
  have hone' : ∀ (i : Nat) (u : Value), z.cells[i]? = some u → u.oneCell' = true := fun i u hu => List.all_eq_true.1 hone u (by simpa using Array.mem_of_getElem? hu)
  have adv := new_mem (es := z.cells.size) (refs := []) (rows := [z.cells.toList.map V.a]) (cs := z.cells) (E := t) hk p1 (by simp) (fun i row hi => by
      cases i with
      | zero => simp at hi; subst hi; simp
      | succ i => simp at hi) (fun i row j x hi hj => by
      cases i with
      | zero =>
        simp at hi; subst hi
        have hj' : j < z.cells.size := by simpa using lt_of_get hj
        have hu := Array.getElem?_eq_getElem hj'
        refine ⟨z.cells[j], by simpa using hu, hone' _ _ hu, ?_⟩
        simp only [List.getElem?_map, Array.getElem?_toList, hu, Option.map_some, Option.some.injEq] at hj
        subst hj
        exact .a
      | succ i => simp at hi)
  refine upon_value (s := Instr.alloc t true (.tuple #[])) (by obtain ⟨dst, op, ty, pos, af, gu⟩ := o; simp only at ho; subst ho; rfl) (v := .pointer (some ⟨w.heap.size, 0, none⟩)) (w' := { w with heap := w.heap.push (.cells z.cells t) }) ?_
    ⟨_, _, ⟨by rw [put_hp]; exact adv, (hR.adv adv).put hd ?_, by rw [put_hp]; simp⟩, p3⟩
  · simp [Instr.alloc, run_zeroValue' hi hz, newVar, newRow]
  · exact fresh_ptr p1 rfl

theorem sound_box {o : Oper} {t : TypeId} {x : Operand} {i : TypeInfo} {r : Nat} (hR : Rel w β F N st a) (ho : o.op = .box t x) (hi : P.info? t = some i)
    (hd : ∀ t, o.dst = some t → t < N) {k : St → Prop} (h : (I.box o.dst r i.size x).vc P k st) (Q : Exit → Act → World → Prop) :
    o.wp P a w (Then P F N w st β k) Q := by
  have hk := hR.hok
  obtain ⟨p1, p2, p3⟩ := h
  obtain ⟨s1, s2, s3, s4⟩ := (hR.ev x).sized hk p2
  have adv := new_mem (es := (a.eval x).cells.size) (refs := V.idsL (st.ev x).cells) (rows := [(st.ev x).cells]) (cs := (a.eval x).cells) (E := t) hk p1 (by simp) (fun i row hi => by
      cases i with
      | zero => simp at hi; subst hi; rw [s1, s2]
      | succ i => simp at hi) (fun i row j y hi hj => by
      cases i with
      | zero =>
        simp at hi; subst hi
        have hj' : j < (a.eval x).cells.size := by rw [s1, ← s2]; exact lt_of_get hj
        have hu := Array.getElem?_eq_getElem hj'
        exact ⟨_, by simpa using hu, s4 _ _ hu, (s3 _ _ _ hu hj).onlyOf _ fun q hq => idsL_mem hj hq⟩
      | succ i => simp at hi)
  refine upon_value (s := Instr.box t (a.eval x)) (by obtain ⟨dst, op, ty, pos, af, gu⟩ := o; simp only at ho; subst ho; rfl) (v := .pointer (some ⟨w.heap.size, 0, none⟩)) (w' := { w with heap := w.heap.push (.cells (a.eval x).cells t) }) ?_
    ⟨_, _, ⟨by rw [put_hp]; exact adv, (hR.adv adv).put hd ?_, by rw [put_hp]; simp⟩, p3⟩
  · simp [Instr.box, newVar, newRow]
  · exact fresh_ptr p1 rfl

theorem noF_own (F : Nat → Prop) (β : Nat → Hd) (b : Nat) : ¬ owned [] β b := by
  rintro ⟨id, h⟩; simp [ownsB] at h

/-- A call of what owns nothing. -/
theorem sound_DP {f : FuncId} {xs : List V} {vs : Array Value} (hR : Rel w β F N st a) (hr : RVs (cx w.heap st.hp β F) vs xs) (hids : V.idsL xs = []) {K : V → Prop} (h : DP P f xs K) :
    Calls P f vs w fun e w' => ∃ r x, e = .returned r ∧ Adv F w st.hp β w' st.hp β ∧ RV (cx w'.heap st.hp β F) r x ∧ K x := by
  have hk := hR.hok
  have hF : HOK w.heap [] β (fun b => owned st.hp β b ∨ F b) := by
    refine ⟨fun id o h => by simp at h, fun id id' b h => by simp [ownsB] at h, fun b hb => ⟨?_, noF_own F β b⟩⟩
    rcases hb with hb | hb
    · exact hk.lt hb
    · exact (hk.far b hb).1
  refine (h w β (fun b => owned st.hp β b ∨ F b) vs hF ⟨hr.1, fun i v x hv hx => ?_⟩).mono fun e w' hres => ?_
  · have h1 := (hr.2 i v x hv hx).onlyOf [] fun k hk' => by have := idsL_mem hx hk'; rw [hids] at this; exact this
    refine (h1.strip (c' := cx w.heap [] β (fun b => owned st.hp β b ∨ F b)) (Nat.le_refl _) fun b hb hn => ⟨rfl, fun e => ?_⟩).up
    rcases e with e | e
    · exact noF_own F β b e
    · exact hn e
  · obtain ⟨r, x, H', β', rfl, adv, hr', hP, hK⟩ := hres
    have hblk : ∀ b, b < w.heap.size → w'.heap[b]? = w.heap[b]? := fun b hb => adv.ext.block b hb (noF_own F β b)
    have hle : (cx w.heap st.hp β F).le (cx w'.heap st.hp β F) := ⟨adv.ext.size, fun b hb hn => ⟨hblk b hb, hn⟩, fun _ h => h, fun _ _ _ e => .inl e⟩
    have hok' : HOK w'.heap st.hp β F := by
      refine ⟨fun id o hid => ?_, hk.one, fun b hb => ⟨Nat.lt_of_lt_of_le (hk.far b hb).1 adv.ext.size, (hk.far b hb).2⟩⟩
      have hro := hk.ro id o hid
      cases o with
      | res => trivial
      | dead => trivial
      | mem fz refs rows =>
        rcases hro with hro | ⟨q1, q2, q3, q4, q5, cs, E, fr, q6, q7⟩
        · exact .inl hro
        · exact RO.mono (.inr ⟨q1, q2, q3, q4, q5, cs, E, fr, q6, q7⟩) hle (hblk _ (hp_lt q6)) fun hn => hn
      | map fz refs es =>
        obtain ⟨q1, ents, clock, q2, q3⟩ := hro
        exact RO.mono (o := .map fz refs es) ⟨q1, ents, clock, q2, q3⟩ hle (hblk _ (hp_lt q2)) fun hn => hn
      | sit s pos => exact RO.mono (o := .sit s pos) hro hle (hblk _ (hp_lt hro.2.2.2.2)) fun hn => hn
    refine ⟨r, x.fz H', rfl, ⟨hok', hle, adv.ext.os, adv.ext.tape, adv.ext.output, adv.ext.size, fun b hb _ => hblk b hb⟩, ?_, hK⟩
    have hz := RV.fz (l := x.ids) adv.hok hr' rfl hP fun i hi => hi
    have adv2 := adv_fzL (F := fun b => owned st.hp β b ∨ F b) (w := w') (β := β') x.ids adv.hok
    refine (hz.strip (c' := cx w'.heap st.hp β F) (Nat.le_refl _) fun b hb hn => ⟨rfl, fun e => hn ?_⟩).up
    exact .inr e

/-- A call that is lent objects. -/
theorem sound_DPb {f : FuncId} {xs : List V} {vs : Array Value} (hR : Rel w β F N st a) (hr : RVs (cx w.heap st.hp β F) vs xs) (hids : V.fzPL st.hp xs) {K : V → Prop} (h : DP P f (V.fzL st.hp xs) fun r => r.flat = true ∧ K r) :
    Calls P f vs w fun e w' => ∃ r x, e = .returned r ∧ Adv F w st.hp β w' st.hp β ∧ RV (cx w'.heap st.hp β F) r x ∧ K x := by
  have hk0 := hR.hok
  have hk := (adv_fzL (F := F) (w := w) (β := β) (V.idsL xs) hk0).hok
  have hF : HOK w.heap [] β (fun b => owned (st.hp.fz (V.idsL xs)) β b ∨ F b) := by
    refine ⟨fun id o h => by simp at h, fun id id' b h => by simp [ownsB] at h, fun b hb => ⟨?_, noF_own F β b⟩⟩
    rcases hb with hb | hb
    · exact hk.lt hb
    · exact (hk.far b hb).1
  refine (h w β (fun b => owned (st.hp.fz (V.idsL xs)) β b ∨ F b) vs hF ⟨by rw [fzL_length]; exact hr.1, fun i v x hv hx => ?_⟩).mono fun e w' hres => ?_
  · rw [fzL_get] at hx
    simp only [Option.map_eq_some_iff] at hx
    obtain ⟨y, hy, rfl⟩ := hx
    have h1 := RV.fz (l := V.idsL xs) hk0 (hr.2 i v y hv hy) rfl (fzPL_get hids hy) fun k hk' => idsL_mem hy hk'
    refine (h1.strip (c' := cx w.heap [] β (fun b => owned (st.hp.fz (V.idsL xs)) β b ∨ F b)) (Nat.le_refl _) fun b hb hn => ⟨rfl, fun e => ?_⟩).up
    rcases e with e | e
    · exact noF_own F β b e
    · exact hn e
  · obtain ⟨r, x, H', β', rfl, adv, hr', hP, hK⟩ := hres
    have hblk : ∀ b, b < w.heap.size → w'.heap[b]? = w.heap[b]? := fun b hb => adv.ext.block b hb (noF_own F β b)
    have hle : (cx w.heap st.hp β F).le (cx w'.heap st.hp β F) := ⟨adv.ext.size, fun b hb hn => ⟨hblk b hb, hn⟩, fun _ h => h, fun _ _ _ e => .inl e⟩
    have hk := hk0
    have hok' : HOK w'.heap st.hp β F := by
      refine ⟨fun id o hid => ?_, hk.one, fun b hb => ⟨Nat.lt_of_lt_of_le (hk.far b hb).1 adv.ext.size, (hk.far b hb).2⟩⟩
      have hro := hk.ro id o hid
      cases o with
      | res => trivial
      | dead => trivial
      | mem fz refs rows =>
        rcases hro with hro | ⟨q1, q2, q3, q4, q5, cs, E, fr, q6, q7⟩
        · exact .inl hro
        · exact RO.mono (.inr ⟨q1, q2, q3, q4, q5, cs, E, fr, q6, q7⟩) hle (hblk _ (hp_lt q6)) fun hn => hn
      | map fz refs es =>
        obtain ⟨q1, ents, clock, q2, q3⟩ := hro
        exact RO.mono (o := .map fz refs es) ⟨q1, ents, clock, q2, q3⟩ hle (hblk _ (hp_lt q2)) fun hn => hn
      | sit s pos => exact RO.mono (o := .sit s pos) hro hle (hblk _ (hp_lt hro.2.2.2.2)) fun hn => hn
    refine ⟨r, x.fz H', rfl, ⟨hok', hle, adv.ext.os, adv.ext.tape, adv.ext.output, adv.ext.size, fun b hb _ => hblk b hb⟩, ?_, hK.2⟩
    have hz := RV.fz (l := x.ids) adv.hok hr' rfl hP fun i hi => hi
    exact hz.flat hK.1

end
end Go.Abs
