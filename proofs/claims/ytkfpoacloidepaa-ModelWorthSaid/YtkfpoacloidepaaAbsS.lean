import Derived.Test.YtkfpoacloidepaaAbsX
set_option linter.all false
/- Code. -/
namespace Go.Abs
set_option linter.unusedVariables false

inductive C where
  | skip
  | reg (n : Nat) (its : List It)
  | seq (a b : C)
  | cond (x : Operand) (a b : C)
  | block (id : Nat) (c : C)
  | loop (c : C)
  | exit (id : Nat)
  | ret
  deriving Inhabited

inductive Ex where
  | norm
  | exit (id : Nat)
  | ret

def Ex.to : Ex → Exit
  | .norm => .normal
  | .exit id => .exit id
  | .ret => .ret

/-- What is said of a region beside its operations: which of ours stand ahead of operation j; which slots are kept behind. -/
structure RA where
  gs : List (Nat × List I) := []
  aps : List (Nat × List Nat) := []
  keep : Option (List Nat) := none
  ord : List Nat := []

def gsOf : List (Nat × List I) → Nat → List I
  | [], _ => []
  | (k, l) :: r, j => if k = j then l else gsOf r j

def apOf : List (Nat × List Nat) → Nat → List Nat
  | [], _ => []
  | (k, l) :: r, j => if k = j then l else apOf r j

/-- A mark that a call changes what it is handed. -/
def isM (ap : List Nat) : Option Nat := match ap with | [1000000] => some 0 | [1000001] => some 1 | [1000002] => some 2 | _ => none

def cmpA (P : Program) (o : Oper) (r : Nat) (ap : List Nat) : Option I := match isM ap with | some b => cmpM b o | none => cmpI P o r ap

def cmpIts (P : Program) (N : Nat) (ops : Array Oper) (gs : List (Nat × List I)) (aps : List (Nat × List Nat)) (tail : List It) : List Nat → Option (List It)
  | [] => some tail
  | j :: js => (ops[j]?).bind fun o => (cmpA P o (resOf ops j) (apOf aps j)).bind fun i => (cmpIts P N ops gs aps tail js).bind fun l =>
    if dstOk N o && (gsOf gs j).all (·.ghost) then
      match o.guard with
      | none => some ((gsOf gs j).map .g ++ .o j i :: l)
      | some (gj, want) => match (ops[gj]?).bind (·.dst) with
        | some s => if s < N then some ((gsOf gs j).map .g ++ .gd j s want o.dst i :: l) else none
        | none => none
    else none

def keepIts (ra : RA) : List It := match ra.keep with | some ts => [.g (.keep ts)] | none => []

def cmpReg (P : Program) (N : Nat) (ra : RA) (ops : Array Oper) : Option C :=
  (cmpIts P N ops ra.gs ra.aps (keepIts ra) (List.range ops.size)).map (.reg (resOf ops ops.size))

def okPairB (dep : Nat → Nat → Bool) (y x : Nat × List It) : Bool :=
  (dep x.1 y.1 || (match y.2 with | [it] => passesB it x.2 | _ => false)) && (norn y.2 x.2 && norn x.2 y.2) && y.2.all fun it => x.2.all fun x' => x'.dst.toList.all fun d => !it.hops.contains d

def pairwiseB {α : Type} (r : α → α → Bool) : List α → Bool
  | [] => true
  | x :: l => l.all (r x) && pairwiseB r l

/-- A region whose order is open, its operations in an order of ours. -/
def cmpDraw (P : Program) (N : Nat) (ra : RA) (ops : Array Oper) : Option C :=
  (ra.ord.mapM fun j => (cmpIts P N ops ra.gs ra.aps [] [j]).map fun X => (j, X)).bind fun c =>
    if P.follows .mixedOrders && ra.ord.length == ops.size && ra.ord.all (decide <| · < ops.size) && pairwiseB (fun a b => a != b) ra.ord &&
        ops.toList.zipIdx.all (fun p => (depOf p.1).all (decide <| · < p.2)) && pairwiseB (okPairB (depB ops (maskUpTo ops ops.size))) c && (flat c).all (fun x => x.resn.all fun r => decide (r < resOf ops ops.size)) then
      some (.reg (resOf ops ops.size) (flat c ++ keepIts ra))
    else none

def raOf : List (Nat × RA) → Nat → RA
  | [], _ => {}
  | (k, ra) :: r, j => if k = j then ra else raOf r j

def cmpC (P : Program) (N : Nat) (ann : List (Nat × RA)) : Code → Option C
  | .skip => some .skip
  | .region id ops draw => if draw then cmpDraw P N (raOf ann id) ops else cmpReg P N (raOf ann id) ops
  | .seq a b => (cmpC P N ann a).bind fun x => (cmpC P N ann b).map (.seq x)
  | .cond x a b => (cmpC P N ann a).bind fun y => (cmpC P N ann b).map (.cond x y)
  | .block id c => (cmpC P N ann c).map (.block id)
  | .loop c => (cmpC P N ann c).map .loop
  | .exit id => some (.exit id)
  | .ret => some .ret
  | _ => none

structure Lev (n0 : Nat) (F : Nat → Prop) (w : World) (H : Heap) (β : Nat → Hd) (w' : World) (H' : Heap) (β' : Nat → Hd) : Prop where
  size : w.heap.size ≤ w'.heap.size
  same : ∀ b, b < w.heap.size → ¬ (owned H β b ∨ F b) → w'.heap[b]? = w.heap[b]? ∧ ¬ (owned H' β' b ∨ F b)
  live : ∀ id, id < n0 → liveIn H id → liveIn H' id
  hd : ∀ id h', id < n0 → liveIn H id → hdOf H' β' id = some h' → hdOf H β id = some h' ∨ ∃ h, hdOf H β id = some h ∧ h.tot < h'.tot
  ext : WExt (owned H β) w w'
  own : ∀ b, owned H' β' b → owned H β b ∨ w.heap.size ≤ b

theorem Adv.lev {n0 : Nat} {F : Nat → Prop} {w w' : World} {H H' : Heap} {β β' : Nat → Hd} (h : Adv F w H β w' H' β') : Lev n0 F w H β w' H' β' :=
  ⟨h.le.size, h.le.same, fun id _ hl => h.le.live id hl, fun id h' _ hl => h.le.hd id h' hl, h.ext, h.own⟩

theorem Lev.trans {n0 : Nat} {F : Nat → Prop} {w w' w'' : World} {H H' H'' : Heap} {β β' β'' : Nat → Hd} (h : Lev n0 F w H β w' H' β') (k : Lev n0 F w' H' β' w'' H'' β'') : Lev n0 F w H β w'' H'' β'' := by
  refine ⟨Nat.le_trans h.size k.size, fun b hb hn => ?_, fun id hi hl => k.live id hi (h.live id hi hl), fun id h'' hi hl e => ?_, h.ext.trans k.ext h.own, fun b hb => ?_⟩
  · obtain ⟨h1, h2⟩ := h.same b hb hn
    obtain ⟨k1, k2⟩ := k.same b (Nat.lt_of_lt_of_le hb h.size) h2
    exact ⟨k1.trans h1, k2⟩
  · rcases k.hd id h'' hi (h.live id hi hl) e with e1 | ⟨g, e1, hlt⟩
    · exact h.hd id h'' hi hl e1
    · rcases h.hd id g hi hl e1 with e2 | ⟨g2, e2, hlt2⟩
      · exact .inr ⟨g, e2, hlt⟩
      · exact .inr ⟨g2, e2, by omega⟩
  · rcases k.own b hb with e | e
    · exact h.own b e
    · exact .inr (Nat.le_trans h.size e)

def Lift (N n0 : Nat) (F : Nat → Prop) (w : World) (st : St) (β : Nat → Hd) (Q : Ex → St → Prop) : Exit → Act → World → Prop :=
  fun e a' w' => ∃ x β' st', x.to = e ∧ Lev n0 F w st.hp β w' st'.hp β' ∧ Rel w' β' F N st' a' ∧ n0 ≤ st'.hp.length ∧ Q x st'

def W (P : Program) (N n0 : Nat) (code : Code) (Q : Ex → St → Prop) (st : St) : Prop :=
  ∀ (w : World) (β : Nat → Hd) (F : Nat → Prop) (a : Act), Rel w β F N st a → code.wp P (Lift N n0 F w st β Q) a w

/-- A piece of code, by its IR alone. -/
def WI (P : Program) (ir : C) (Q : Ex → St → Prop) (st : St) : Prop :=
  ∀ (N : Nat) (ann : List (Nat × RA)) (code : Code) (n0 : Nat), cmpC P N ann code = some ir → n0 ≤ st.hp.length → W P N n0 code Q st

def St.res (st : St) : Nat → St
  | 0 => st
  | n + 1 => { st with hp := st.hp ++ List.replicate (n + 1) .res, bs := st.hp.length }

/-- The slots, but for what names objects from n on. -/
def lim (n : Nat) (x : V) : V := if x.ids.all (· < n) then x else .any
def limO (n : Nat) (o : O) : O := if o.refs.all (· < n) then o else .dead
def trimS (n : Nat) (l : Sl) : Sl := fun t => lim n (gt l t)
def St.trim (n : Nat) (st : St) : St := { st with sl := trimS n st.sl, hp := (st.hp.take n).map (limO n) }

theorem trimS_up (n : Nat) (l : Sl) (d : Nat) (v : V) : trimS n (up l d v) = up (trimS n l) d (lim n v) := by
  funext t; simp only [trimS, up, gt]; split <;> rfl
theorem trimS_e0 (n : Nat) : trimS n e0 = e0 := by funext t; simp [trimS, gt, e0, lim, V.ids]

def vc (P : Program) : C → (Ex → St → Prop) → St → Prop
  | .skip, Q, st => Q .norm st
  | .reg n its, Q, st => vcIts P its (Q .norm) (st.res n)
  | .seq a b, Q, st => vc P a (fun e s => match e with | .norm => vc P b Q s | .exit i => Q (.exit i) s | .ret => Q .ret s) st
  | .cond x a b, Q, st => match st.ev x with
    | .a (.bool t) => (t = true → vc P a Q st) ∧ (t = false → vc P b Q st)
    | _ => False
  | .block id c, Q, st => vc P c (fun e s => match e with | .norm => Q .norm s | .exit i => if i = id then Q .norm s else Q (.exit i) s | .ret => Q .ret s) st
  | .loop c, Q, st => WI P (.loop c) Q st
  | .exit id, Q, st => Q (.exit id) st
  | .ret, Q, st => Q .ret st

section
variable {P : Program} {N n0 : Nat} {F : Nat → Prop}

theorem res_length (st : St) (n : Nat) : st.hp.length ≤ (st.res n).hp.length := by cases n <;> simp [St.res]

theorem resd_res (st : St) {n r : Nat} (h : r < n) : resd r (st.res n) := by
  cases n with
  | zero => omega
  | succ n =>
    show (st.hp ++ List.replicate (n + 1) O.res)[st.hp.length + r]? = _
    rw [List.getElem?_append_right (by omega), List.getElem?_replicate, if_pos (by omega)]

theorem res_get {H : Heap} {n id : Nat} {o : O} (h : (H ++ List.replicate n .res)[id]? = some o) (ho : o ≠ .res) : H[id]? = some o := by
  rw [List.getElem?_append] at h
  split at h
  · exact h
  · rw [List.getElem?_replicate] at h
    split at h
    · injection h with h; exact (ho h.symm).elim
    · cases h

theorem get_res {H : Heap} {n id : Nat} {o : O} (h : H[id]? = some o) : (H ++ List.replicate n .res)[id]? = some o := by
  rw [List.getElem?_append, if_pos (lt_of_get h)]; exact h

theorem ownsB_res {H : Heap} {β : Nat → Hd} {n id b : Nat} : ownsB (H ++ List.replicate n .res) β id b ↔ ownsB H β id b := by
  unfold ownsB
  cases h : H[id]? with
  | some o => rw [get_res h]
  | none =>
    cases h2 : (H ++ List.replicate n .res)[id]? with
    | none => rfl
    | some o =>
      have : o = .res := Classical.byContradiction fun hn => by rw [res_get h2 hn] at h; cases h
      subst this; rfl

theorem hdOf_res {H : Heap} {β : Nat → Hd} {n id : Nat} : hdOf (H ++ List.replicate n .res) β id = hdOf H β id := by
  unfold hdOf
  cases h : H[id]? with
  | some o => rw [get_res h]
  | none =>
    cases h2 : (H ++ List.replicate n .res)[id]? with
    | none => rfl
    | some o =>
      have : o = .res := Classical.byContradiction fun hn => by rw [res_get h2 hn] at h; cases h
      subst this; rfl

theorem cx_res {hp : Array Obj} {H : Heap} {β : Nat → Hd} {n : Nat} : cx hp (H ++ List.replicate n .res) β F = cx hp H β F := by
  unfold cx
  congr 1
  · funext b
    simp only [owned, ownsB_res]
  · funext id
    simp only [liveIn, eq_iff_iff]
    exact ⟨fun ⟨o, h1, h2⟩ => ⟨o, res_get h1 h2, h2⟩, fun ⟨o, h1, h2⟩ => ⟨o, get_res h1, h2⟩⟩
  · funext id; exact hdOf_res

theorem adv_res {w : World} {H : Heap} {β : Nat → Hd} (hk : HOK w.heap H β F) (n : Nat) : Adv F w H β w (H ++ List.replicate n .res) β := by
  refine ⟨⟨fun id o h => ?_, fun id id' b h1 h2 => hk.one id id' b (ownsB_res.1 h1) (ownsB_res.1 h2), fun b hb => ⟨(hk.far b hb).1, fun ⟨id, e⟩ => (hk.far b hb).2 ⟨id, ownsB_res.1 e⟩⟩⟩, by rw [cx_res]; exact .refl _, .refl _ _⟩
  rw [cx_res]
  by_cases ho : o = .res
  · subst ho; trivial
  · exact hk.ro id o (res_get h ho)

theorem rel_res {w : World} {β : Nat → Hd} {st : St} {a : Act} (hR : Rel w β F N st a) (n : Nat) : Adv F w st.hp β w (st.res n).hp β ∧ Rel w β F N (st.res n) a := by
  cases n with
  | zero => exact ⟨⟨hR.hok, .refl _, .refl _ _⟩, hR⟩
  | succ n =>
    have adv := adv_res (n := n + 1) hR.hok
    exact ⟨adv, ⟨adv.hok, fun t => (hR.sl t).mono adv.le, hR.df, hR.sz⟩⟩

theorem Lift.of {w w1 : World} {β β1 : Nat → Hd} {st st1 : St} {Q : Ex → St → Prop} (h : Lev n0 F w st.hp β w1 st1.hp β1) {e : Exit} {a : Act} {w2 : World} (k : Lift N n0 F w1 st1 β1 Q e a w2) : Lift N n0 F w st β Q e a w2 := by
  obtain ⟨x, β', st', h1, h2, h3, h4, h5⟩ := k
  exact ⟨x, β', st', h1, h.trans h2, h3, h4, h5⟩

theorem cmpIts_match {ops : Array Oper} {gs : List (Nat × List I)} {aps : List (Nat × List Nat)} {tail : List It} (ht : MatchIts P N ops tail []) : ∀ (js : List Nat) (l : List It), cmpIts P N ops gs aps tail js = some l → MatchIts P N ops l js := by
  intro js
  induction js with
  | nil => intro l h; simp only [cmpIts, Option.some.injEq] at h; subst h; exact ht
  | cons j js ih =>
    intro l h
    simp only [cmpIts, Option.bind_eq_some_iff] at h
    obtain ⟨o, ho, i, hi, l', hl', h⟩ := h
    have hm := ih l' hl'
    have hi : cmpI P o (resOf ops j) (apOf aps j) = some i ∨ ∃ b, cmpM b o = some i := by
      unfold cmpA at hi
      split at hi
      · exact .inr ⟨_, hi⟩
      · exact .inl hi
    have ghosts : ∀ (g : List I) (it : List It), g.all (·.ghost) = true → MatchIts P N ops it (j :: js) → MatchIts P N ops (g.map .g ++ it) (j :: js) := by
      intro g
      induction g with
      | nil => intro it _ h; exact h
      | cons x g ihg =>
        intro it hg h
        simp only [List.all_cons, Bool.and_eq_true] at hg
        exact ⟨hg.1, ihg it hg.2 h⟩
    split at h
    · next hc =>
      simp only [Bool.and_eq_true] at hc
      split at h
      · next hgu =>
        injection h with h; subst h
        exact ghosts _ _ hc.2 ⟨rfl, ⟨o, apOf aps j, ho, hgu, hi, hc.1⟩, hm⟩
      · next gj want hgu =>
        split at h
        · next s hs =>
          split at h
          · next hsN =>
            injection h with h; subst h
            exact ghosts _ _ hc.2 ⟨rfl, ⟨o, apOf aps j, gj, ho, hgu, hs, hsN, rfl, hi, hc.1⟩, hm⟩
          · cases h
        · cases h
    · cases h

theorem keepIts_match {ops : Array Oper} (ra : RA) : MatchIts P N ops (keepIts ra) [] := by
  unfold keepIts; split
  · exact ⟨rfl, trivial⟩
  · trivial

theorem pairwiseB_iff {α : Type} {r : α → α → Bool} : ∀ {l : List α}, pairwiseB r l = true → l.Pairwise fun a b => r a b = true := by
  intro l
  induction l with
  | nil => intro _; exact .nil
  | cons x l ih =>
    intro h
    simp only [pairwiseB, Bool.and_eq_true, List.all_eq_true] at h
    exact List.pairwise_cons.2 ⟨h.1, ih h.2⟩

theorem draw_sound {ra : RA} {ops : Array Oper} {ir : C} {id : Nat} (hc : cmpDraw P N ra ops = some ir) : ∃ n its, ir = .reg n its ∧ ∀ (w : World) (β : Nat → Hd) (st : St) (a : Act) (k : St → Prop) (Q : Exit → Act → World → Prop), (∀ r, r < n → resd r st) → Rel w β F N st a → vcIts P its k st →
    (∀ a' w' β' st', Adv F w st.hp β w' st'.hp β' → Rel w' β' F N st' a' → st.hp.length ≤ st'.hp.length → k st' → Q .normal a' w') → (Code.region id ops true).wp P Q a w := by
  simp only [cmpDraw, Option.bind_eq_some_iff] at hc
  obtain ⟨c, hcm, hc⟩ := hc
  split at hc
  · next hcond =>
    simp only [Bool.and_eq_true, beq_iff_eq, List.all_eq_true, decide_eq_true_eq] at hcond
    obtain ⟨⟨⟨⟨⟨⟨hmix, hlen⟩, hlt⟩, hnd⟩, hdn⟩, hpw⟩, hrs⟩ := hcond
    injection hc with hc
    subst hc
    refine ⟨_, _, rfl, fun w β st a k Q hres hR h hQ => ?_⟩
    obtain ⟨m1, m2⟩ := mapM_some hcm
    have hfst : c.map (·.1) = ra.ord := by
      apply List.ext_getElem?
      intro i
      rw [List.getElem?_map]
      cases ho : ra.ord[i]? with
      | none =>
        have : c[i]? = none := by rw [List.getElem?_eq_none_iff] at ho ⊢; omega
        rw [this]; rfl
      | some j =>
        obtain ⟨y, hy, hf⟩ := m2 i j ho
        simp only [Option.map_eq_some_iff] at hf
        obtain ⟨X, _, rfl⟩ := hf
        rw [hy]; rfl
    have hdn' : ∀ (i : Nat) (o : Oper), ops[i]? = some o → ∀ d ∈ depOf o, d < i := by
      intro i o ho d hd
      have := hdn (o, i) (by
        rw [List.mem_zipIdx_iff_getElem?]; simpa using ho) 
      exact this d hd
    refine wp_region_any hmix ?_
    have hR' : Rel { w with drawn := w.drawn + 1 } β F N st a := ⟨hR.hok, hR.sl, hR.df, hR.sz⟩
    have hndup : (c.map (·.1)).Nodup := by
      rw [hfst]
      exact (pairwiseB_iff hnd).imp fun h => by simpa using h
    have key := any_sound (P := P) (F := F) (Q := Q) (depB_ok hdn') hdn' (keepIts_match ra) c (Array.replicate ops.size false) { w with drawn := w.drawn + 1 } β st a k (by simp) hndup (fun i hi => ?_) (fun g hg => ?_) (fun i o hl => by
        simp only [Array.getD_eq_getD_getElem?, Array.getElem?_replicate] at hl
        split at hl <;> cases hl) ((pairwiseB_iff hpw).imp fun {y x} hyx => ?_) (fun g hg y hy r hr => hres r (hrs y (List.mem_flatMap.2 ⟨g, hg, hy⟩) r hr)) hR' h fun a' w' β' st' adv hR2 hl hk => hQ a' w' β' st' ⟨adv.hok, adv.le, ⟨adv.ext.os, adv.ext.tape, adv.ext.output, adv.ext.size, adv.ext.block⟩⟩ hR2 hl hk
    · rw [show c.length = ops.size from by rw [m1, hlen]] at key
      exact key
    · rw [hfst]
      constructor
      · intro _
        -- all numbers below the size stand in a list without repeats of that length
        refine Classical.byContradiction fun hno => ?_
        have hsub : ∀ x ∈ i :: ra.ord, x ∈ List.range ops.size := by
          intro x hx
          rcases List.mem_cons.1 hx with rfl | hx
          · exact List.mem_range.2 hi
          · exact List.mem_range.2 (hlt x hx)
        have hnd2 : (i :: ra.ord).Nodup := List.nodup_cons.2 ⟨hno, by rw [← hfst]; exact hndup⟩
        have := List.Nodup.length_le_of_subset hnd2 hsub
        simp at this; omega
      · intro _
        simp [Array.getD, hi]
    · obtain ⟨i, hi⟩ := List.getElem?_of_mem hg
      have hio : i < ra.ord.length := by rw [← m1]; exact lt_of_get hi
      have ho := List.getElem?_eq_getElem hio
      obtain ⟨y, hy, hf⟩ := m2 i _ ho
      rw [hi] at hy; injection hy with hy; subst hy
      simp only [Option.map_eq_some_iff] at hf
      obtain ⟨X, hX, rfl⟩ := hf
      exact ⟨hlt _ (List.getElem_mem hio), cmpIts_match (by trivial) _ _ hX⟩
    · unfold okPairB at hyx
      simp only [Bool.and_eq_true, Bool.or_eq_true] at hyx
      obtain ⟨⟨hyx, hno⟩, hsep⟩ := hyx
      refine ⟨?_, hno, fun it hit x' hx' d hd => ?_⟩
      · rcases hyx with hyx | hyx
        · exact .inl hyx
        · refine .inr ?_
          split at hyx
          · next it e => exact ⟨it, e, passes_of hyx⟩
          · cases hyx
      · have := List.all_eq_true.1 (List.all_eq_true.1 (List.all_eq_true.1 hsep it hit) x' hx') d hd
        simpa using this
  · cases hc

theorem W.mono {code : Code} {Q Q' : Ex → St → Prop} {st : St} (h : W P N n0 code Q st) (hq : ∀ e s, Q e s → Q' e s) : W P N n0 code Q' st :=
  fun w β F a hR => wp_mono (h w β F a hR) fun e a' w' ⟨x, β', st', h1, h2, h3, h4, h5⟩ => ⟨x, β', st', h1, h2, h3, h4, hq _ _ h5⟩

/-- What is computed of the IR holds of the code. -/
theorem vc_sound {ann : List (Nat × RA)} : ∀ (code : Code) (ir : C) (Q : Ex → St → Prop) (st : St), cmpC P N ann code = some ir → n0 ≤ st.hp.length → vc P ir Q st → W P N n0 code Q st := by
  intro code
  induction code with
  | skip =>
    intro ir Q st hc hn h w β F a hR
    simp only [cmpC, Option.some.injEq] at hc; subst hc
    exact wp_skip ⟨.norm, β, st, rfl, (Adv.lev ⟨hR.hok, .refl _, .refl _ _⟩), hR, hn, h⟩
  | region id ops draw =>
    intro ir Q st hc hn h w β F a hR
    simp only [cmpC] at hc
    split at hc
    · next hd =>
      subst hd
      obtain ⟨n, its, rfl, hs⟩ := draw_sound (F := F) (id := id) hc
      obtain ⟨adv, hR2⟩ := rel_res hR n
      refine hs w β (st.res n) a (Q .norm) _ (fun r hr => resd_res st hr) hR2 h fun a' w' β' st' adv' hR' hl hk => ?_
      exact ⟨.norm, β', st', rfl, (adv.trans adv').lev, hR', Nat.le_trans hn (Nat.le_trans (res_length st _) hl), hk⟩
    · next hd =>
      simp only [cmpReg, Option.map_eq_some_iff] at hc
      obtain ⟨its, hits, rfl⟩ := hc
      have hm := cmpIts_match (P := P) (N := N) (keepIts_match (raOf ann id)) _ _ hits
      obtain ⟨adv, hR2⟩ := rel_res hR (resOf ops ops.size)
      have : draw = false := by simpa using hd
      subst this
      refine wp_region (its_sound its _ hm w β _ a (Q .norm) hR2 h fun a' w' β' st' adv' hR' hl hk => ?_)
      exact ⟨.norm, β', st', rfl, (adv.trans adv').lev, hR', Nat.le_trans hn (Nat.le_trans (res_length st _) hl), hk⟩
  | seq x y ihx ihy =>
    intro ir Q st hc hn h w β F a hR
    simp only [cmpC, Option.bind_eq_some_iff, Option.map_eq_some_iff] at hc
    obtain ⟨irx, hx, iry, hy, rfl⟩ := hc
    refine wp_seq (wp_mono (ihx irx _ st hx hn h w β F a hR) fun e a' w' hL => ?_)
    obtain ⟨x', β', st', rfl, h2, h3, h4, h5⟩ := hL
    cases x' with
    | norm => exact wp_mono (ihy iry Q st' hy h4 h5 w' β' F a' h3) fun e a2 w2 k => k.of h2
    | exit i => exact ⟨.exit i, β', st', rfl, h2, h3, h4, h5⟩
    | ret => exact ⟨.ret, β', st', rfl, h2, h3, h4, h5⟩
  | cond x c d ihc ihd =>
    intro ir Q st hc hn h w β F a hR
    simp only [cmpC, Option.bind_eq_some_iff, Option.map_eq_some_iff] at hc
    obtain ⟨irx, hx, iry, hy, rfl⟩ := hc
    simp only [vc] at h
    split at h
    · next t e =>
      have hv := hR.ev x
      rw [e] at hv
      exact wp_cond_split hv.of_a (fun ht => ihc irx Q st hx hn (h.1 ht) w β F a hR) fun ht => ihd iry Q st hy hn (h.2 ht) w β F a hR
    · exact h.elim
  | block id c ih =>
    intro ir Q st hc hn h w β F a hR
    simp only [cmpC, Option.map_eq_some_iff] at hc
    obtain ⟨irx, hx, rfl⟩ := hc
    refine wp_block (wp_mono (ih irx _ st hx hn h w β F a hR) fun e a' w' hL => ?_)
    obtain ⟨x', β', st', rfl, h2, h3, h4, h5⟩ := hL
    cases x' with
    | norm => exact ⟨.norm, β', st', rfl, h2, h3, h4, h5⟩
    | exit i =>
      simp only at h5
      show (if i = id then _ else _)
      split
      · next e => rw [if_pos e] at h5; exact ⟨.norm, β', st', rfl, h2, h3, h4, h5⟩
      · next e => rw [if_neg e] at h5; exact ⟨.exit i, β', st', rfl, h2, h3, h4, h5⟩
    | ret => exact ⟨.ret, β', st', rfl, h2, h3, h4, h5⟩
  | loop c ih =>
    intro ir Q st hc hn h
    have hc' := hc
    simp only [cmpC, Option.map_eq_some_iff] at hc
    obtain ⟨irx, hx, rfl⟩ := hc
    exact h N ann _ n0 hc' hn
  | exit id =>
    intro ir Q st hc hn h w β F a hR
    simp only [cmpC, Option.some.injEq] at hc; subst hc
    exact wp_exit ⟨.exit id, β, st, rfl, (Adv.lev ⟨hR.hok, .refl _, .refl _ _⟩), hR, hn, h⟩
  | ret =>
    intro ir Q st hc hn h w β F a hR
    simp only [cmpC, Option.some.injEq] at hc; subst hc
    exact wp_ret ⟨.ret, β, st, rfl, (Adv.lev ⟨hR.hok, .refl _, .refl _ _⟩), hR, hn, h⟩
  | _ => intro ir Q st hc; simp [cmpC] at hc

end
end Go.Abs
