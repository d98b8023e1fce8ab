import Derived.Test.YtkfpoacloidepaaAbsB
set_option linter.all false
/- States, and the operations that leave memory alone. -/
namespace Go.Abs

/-- What the slots hold. -/
abbrev Sl := Nat → V
def gt (l : Sl) (t : Nat) : V := l t
def up (l : Sl) (d : Nat) (v : V) : Sl := fun t => if d = t then v else l t
def e0 : Sl := fun _ => .any
/-- These slots alone. -/
def keepS (l : Sl) : List Nat → Sl
  | [] => e0
  | t :: ts => up (keepS l ts) t (gt l t)

theorem gt_up (l : Sl) (d : Nat) (v : V) (t : Nat) : gt (up l d v) t = if d = t then v else gt l t := rfl
theorem gt_e0 (t : Nat) : gt e0 t = .any := rfl

structure St where
  sl : Sl
  hp : Heap
  bs : Nat := 0

def St.put (st : St) (d : Option Nat) (v : V) : St :=
  match d with
  | some d => { st with sl := up st.sl d v }
  | none => st

def cv : Value → V
  | .agg cs => if cs.toList.all (·.oneCell') then .agg (cs.toList.map .a) else .any
  | v => .a v

def St.ev (st : St) : Operand → V
  | .tmp t => gt st.sl t
  | .const v => cv v
  | .global _ => .any
  | .func f => .fn (.func f) [] []

abbrev V.int (k : IntKind) (n : Int) : V := .a (.int k n)
abbrev V.bool (b : Bool) : V := .a (.bool b)
abbrev V.str (s : ByteArray) : V := .a (.string s)

/-- An object's rows. -/
def O.rows : O → List (List V)
  | .mem _ _ rows => rows
  | _ => []

def O.isMem : O → Bool
  | .mem .. => true
  | _ => false

/-- May it be read there? -/
def okAt (hp : Heap) : V → Prop
  | .ptr id tot i _ => (hp.getD id .dead).isMem = true ∧ (hp.getD id .dead).rows.length = tot ∧ i < tot
  | .ref _ _ => True
  | _ => False

/-- The cells from an address on, to the end of their row. -/
def cellsAt (hp : Heap) : V → List V
  | .ptr id _ i j => ((hp.getD id .dead).rows.getD i []).drop j
  | .ref row j => row.drop j
  | _ => []

structure Rel (w : World) (β : Nat → Hd) (F : Nat → Prop) (N : Nat) (st : St) (a : Act) : Prop where
  hok : HOK w.heap st.hp β F
  sl : ∀ t, RV (cx w.heap st.hp β F) (a.tmps.getD t undef) (gt st.sl t)
  df : a.defers = []
  sz : a.tmps.size = N

theorem RV.cv {c : Cx} {v : Value} : RV c v (cv v) := by
  unfold Abs.cv
  split
  · split
    · next cs hall =>
      refine .agg (by simp) (fun i v hv => ?_) fun i v x h1 h2 => ?_
      · exact List.all_eq_true.1 hall v (by simpa using Array.mem_of_getElem? hv)
      · simp only [List.getElem?_map, Array.getElem?_toList] at h2
        rw [h1] at h2
        simp at h2
        subst h2
        exact .a
    · exact .any
  · exact .a

theorem Rel.ev {w : World} {β : Nat → Hd} {F : Nat → Prop} {N : Nat} {st : St} {a : Act} (h : Rel w β F N st a) (x : Operand) : RV (cx w.heap st.hp β F) (a.eval x) (st.ev x) := by
  cases x with
  | tmp t => exact h.sl t
  | const v => exact .cv
  | global g => exact .any
  | func f => exact .fn rfl rfl (fun i v x h => by simp at h) fun i v x h => by simp at h

theorem Rel.put {w : World} {β : Nat → Hd} {F : Nat → Prop} {N : Nat} {st : St} {a : Act} (h : Rel w β F N st a) {d : Option Nat} (hd : ∀ t, d = some t → t < N) {v : Value} {x : V}
    (hv : RV (cx w.heap st.hp β F) v x) : Rel w β F N (st.put d x) (a.put d v) := by
  cases d with
  | none => exact h
  | some d =>
    have hd := hd d rfl
    refine ⟨h.hok, fun t => ?_, h.df, by simp [Act.put, h.sz]⟩
    show RV _ _ (if d = t then x else gt st.sl t)
    by_cases e : d = t
    · subst e
      simp only [if_true, Act.put]
      rw [show (a.tmps.setIfInBounds d v).getD d undef = v from by simp [Array.getD, h.sz, hd]]
      exact hv
    · rw [if_neg e]
      have : (a.tmps.setIfInBounds d v).getD t undef = a.tmps.getD t undef := by
        simp only [Array.getD_eq_getD_getElem?, Array.getElem?_setIfInBounds]
        rw [if_neg e]
      simp only [Act.put]
      rw [this]
      exact h.sl t

/-- What is undefined is anything. -/
theorem cell?_look (w : World) (b o : Nat) : w.cell? ⟨b, o, none⟩ = look w.heap b o := by
  unfold World.cell? look
  cases w.heap[b]? with
  | none => rfl
  | some x => cases x <;> simp

theorem only_le (c : Cx) (refs : List Nat) : (c.only refs).le c :=
  ⟨Nat.le_refl _, fun _ _ hn => ⟨rfl, hn⟩, fun _ h => h.2, fun _ _ _ h => .inl h⟩

theorem RV.up {c : Cx} {refs : List Nat} {v : Value} {x : V} (h : RV (c.only refs) v x) : RV c v x := h.mono (only_le c refs)

theorem getD_some {α : Type} {l : List α} {i : Nat} {d x : α} (h : l[i]? = some x) : l.getD i d = x := by simp [List.getD, h]

theorem get_of_getD {α : Type} {l : List α} {i : Nat} {d : α} (h : i < l.length) : l[i]? = some (l.getD i d) := by
  simp [List.getD, List.getElem?_eq_getElem h]

/-- Cells that may be read are there. -/
theorem RV.cells {w : World} {H : Heap} {β : Nat → Hd} {F : Nat → Prop} {v : Value} {x : V} (hk : HOK w.heap H β F) (hr : RV (cx w.heap H β F) v x) (ho : okAt H x) :
    ∃ b o, v = .pointer (some ⟨b, o, none⟩) ∧ ∀ (k : Nat) (y : V), (cellsAt H x)[k]? = some y → ∃ u, look w.heap b (o + k) = some u ∧ u.oneCell' = true ∧ RV (cx w.heap H β F) u y := by
  cases hr with
  | ptr hl h =>
    rename_i id tot i j
    obtain ⟨h1, h2, h3⟩ := ho
    cases hid : H[id]? with
    | none => simp [List.getD, hid, O.isMem] at h1
    | some o =>
      have hgd : H.getD id .dead = o := getD_some hid
      simp only [cellsAt]
      rw [hgd] at h1 h2 ⊢
      cases o with
      | mem fz refs rows =>
        have hhd : hdOf H β id = some ((β id).wt rows.length) := by simp [hdOf, hid]
        obtain ⟨g1, g2⟩ := h _ hhd
        obtain ⟨g3, g4, g5⟩ := g2 h2
        rcases hk.ro id _ hid with hr | ⟨_, _, _, q4, _, cs, E, fr, q6, _, _, q9⟩
        · have g4' : (β id).nil = false := g4
          rw [hr.1] at g4'; cases g4'
        · refine ⟨_, _, g5, fun k y hy => ?_⟩
          simp only [O.rows] at h2 hy
          rw [List.getElem?_drop] at hy
          have hi : rows[i]? = some (rows.getD i []) := get_of_getD (by omega)
          obtain ⟨u, e, q, r⟩ := q9 i _ hi g3 _ _ hy
          refine ⟨u, ?_, q, r.up⟩
          unfold look
          have q6' : w.heap[((β id).wt rows.length).b]? = some (.cells cs E fr) := q6
          rw [q6']
          rw [← e]; simp only [Hd.wt]; congr 1; omega
      | res => simp [O.isMem] at h1
      | dead => simp [O.isMem] at h1
      | map => simp [O.isMem] at h1
      | sit => simp [O.isMem] at h1
  | ref g hb hs hg hr =>
    refine ⟨_, _, rfl, fun k y hy => ?_⟩
    simp only [cellsAt, List.getElem?_drop] at hy
    exact ⟨_, by rw [Nat.add_assoc]; exact (hg _ _ hy).1, (hg _ _ hy).2, (hr _ _ hy).up⟩
  | any => exact ho.elim
  | a => exact ho.elim
  | own => exact ho.elim
  | nilv => exact ho.elim
  | view => exact ho.elim
  | agg => exact ho.elim
  | tup => exact ho.elim
  | fn => exact ho.elim
  | mp => exact ho.elim
  | mview => exact ho.elim
  | ifc => exact ho.elim

theorem addr_add (b o k : Nat) : (⟨b, o, none⟩ : Addr).add k = ⟨b, o + k, none⟩ := by
  unfold Addr.add; split
  · next h => subst h; rfl
  · rfl

theorem run_loadCellsFrom {P : Program} {w : World} {b o : Nat} {c : Cx} (ys : List V) : ∀ (n i : Nat) (acc : Array Value), n ≤ ys.length →
    (∀ (k : Nat) (y : V), ys[k]? = some y → ∃ u, look w.heap b (o + i + k) = some u ∧ u.oneCell' = true ∧ RV c u y) →
    ∃ vs : Array Value, (loadCellsFrom ⟨b, o, none⟩ i n acc).run P w = .ok (acc ++ vs) w ∧ vs.size = n ∧ (∀ (k : Nat) (u : Value), vs[k]? = some u → u.oneCell' = true) ∧ ∀ (k : Nat) (u : Value) (y : V), vs[k]? = some u → ys[k]? = some y → RV c u y := by
  induction ys with
  | nil =>
    intro n i acc hn h
    obtain rfl : n = 0 := by simpa using hn
    exact ⟨#[], by simp [loadCellsFrom], rfl, fun k u h => by simp at h, fun k u y h => by simp at h⟩
  | cons y ys ih =>
    intro n i acc hn h
    cases n with
    | zero => exact ⟨#[], by simp [loadCellsFrom], rfl, fun k u h => by simp at h, fun k u y h => by simp at h⟩
    | succ n =>
      obtain ⟨u, hu, ou, ru⟩ := h 0 y rfl
      obtain ⟨vs, h1, h2, h4, h3⟩ := ih n (i + 1) (acc.push u) (by simpa using hn) fun k y' hy => by
        obtain ⟨u', a, b⟩ := h (k + 1) y' hy
        exact ⟨u', by rw [← a]; congr 1; omega, b⟩
      refine ⟨#[u] ++ vs, ?_, by simp [h2]; omega, fun k u' hk => ?_, fun k u' y' hk hy => ?_⟩
      · simp only [loadCellsFrom, Sem.run_bind, run_load, addr_add, cell?_look]
        rw [show o + i = o + i + 0 from rfl, hu]
        simp only [Result.andThen_ok]
        rw [h1]; simp
      · cases k with
        | zero => simp [Array.getElem?_append] at hk; subst hk; exact ou
        | succ k =>
          simp only [Array.getElem?_append] at hk
          rw [if_neg (by simp)] at hk
          simp at hk
          exact h4 k u' hk
      · cases k with
        | zero => simp [Array.getElem?_append] at hk hy; subst hk hy; exact ru
        | succ k =>
          simp only [Array.getElem?_append] at hk
          rw [if_neg (by simp)] at hk
          simp at hk hy
          exact h3 k u' y' hk hy

def isAggP (P : Program) (t : TypeId) : Option Bool :=
  match P.underlying t with
  | some (.struct _) | some (.array _ _) => some true
  | some _ => some false
  | none => none

/-- Load n cells (agg) or one. -/
def ldV (hp : Heap) (agg : Bool) (n : Nat) (x : V) : V := if agg then .agg ((cellsAt hp x).take n) else (cellsAt hp x).headD .any
def ldP (hp : Heap) (agg : Bool) (n : Nat) (x : V) : Prop := okAt hp x ∧ (if agg then n else 1) ≤ (cellsAt hp x).length

theorem run_isAgg {P : Program} {w : World} {t : TypeId} {b : Bool} (h : isAggP P t = some b) : (isAgg t).run P w = .ok b w := by
  unfold isAggP at h
  unfold isAgg underlying
  cases hu : P.underlying t with
  | none => rw [hu] at h; cases h
  | some d => rw [hu] at h; simp only [Sem.run_bind, run_program, Result.andThen_ok, hu]; cases d <;> simp_all

theorem run_typeInfo' {P : Program} {w : World} {t : TypeId} {i : TypeInfo} (h : P.info? t = some i) : (typeInfo t).run P w = .ok i w := by
  unfold typeInfo; simp [h]

theorem run_sizeOf' {P : Program} {w : World} {t : TypeId} {i : TypeInfo} (h : P.info? t = some i) : (sizeOf t).run P w = .ok i.size w := by
  unfold sizeOf; simp [run_typeInfo' h]

theorem run_underlying' {P : Program} {w : World} {t : TypeId} {d : TypeDesc} (h : P.underlying t = some d) : (underlying t).run P w = .ok d w := by
  unfold underlying; simp [h]

theorem run_zeroValue' {P : Program} {w : World} {t : TypeId} {i : TypeInfo} {z : Value} (h : P.info? t = some i) (hz : i.zero = some z) : (zeroValue t).run P w = .ok z w := by
  unfold zeroValue; simp [run_typeInfo' h, hz]

theorem run_loadVar' {P : Program} {w : World} {H : Heap} {β : Nat → Hd} {F : Nat → Prop} {v : Value} {x : V} {t : TypeId} {i : TypeInfo} {agg : Bool}
    (hk : HOK w.heap H β F) (hr : RV (cx w.heap H β F) v x) (hi : P.info? t = some i) (ha : isAggP P t = some agg) (hp : ldP H agg i.size x) :
    ∃ u, (Instr.loadAt t v).run P w = .ok u w ∧ RV (cx w.heap H β F) u (ldV H agg i.size x) := by
  obtain ⟨ho, hn⟩ := hp
  obtain ⟨b, o, rfl, hc⟩ := hr.cells hk ho
  unfold Instr.loadAt Instr.sureAddr loadVar
  simp only [Sem.run_bind, Sem.run_pure, Result.andThen_ok, run_isAgg ha]
  cases agg with
  | true =>
    simp only [if_true] at hn
    obtain ⟨vs, h1, h2, h4, h3⟩ := run_loadCellsFrom (P := P) (w := w) (b := b) (o := o) (c := cx w.heap H β F) (cellsAt H x) i.size 0 #[] hn (by simpa using hc)
    refine ⟨.agg vs, ?_, ?_⟩
    · simp [run_sizeOf' hi, loadCells, h1]
    · simp only [ldV, if_true]
      refine .agg (by simp [h2, hn]) h4 fun k u y hk hy => h3 k u y hk ?_
      rw [List.getElem?_take] at hy
      split at hy
      · exact hy
      · cases hy
  | false =>
    simp only [Bool.false_eq_true, if_false] at hn
    cases hcl : cellsAt H x with
    | nil => rw [hcl] at hn; simp at hn
    | cons y ys =>
      obtain ⟨u, hu, _, ru⟩ := hc 0 y (by rw [hcl]; rfl)
      refine ⟨u, ?_, ?_⟩
      · simp only [Bool.false_eq_true, if_false, run_load, cell?_look]
        rw [show o = o + 0 from rfl, hu]
      · simp [ldV, hcl]; exact ru

end Go.Abs
