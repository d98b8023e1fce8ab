import Derived.Test.YtkfpoacloidepaaR4
import Derived.Below
import Derived.Laws.Strings
import Derived.Sort.AssemblyPlain
import Derived.Sort.LotD5
set_option linter.all false
/- What the row's reading tells: structs, arguments. -/
namespace Go.Abs
set_option linter.unusedVariables false

/-- The same of a struct's fields from cell k on. -/
def RdF (P : Program) (fs : List Field) (k : Nat) (n : Nat) {α : Type} (f : α → List V) (ok : α → Prop) : Prop :=
  ∀ (H : Type) (enc : TypeId × Value → H) (w : World) (fuel : Nat) (cs : List Value) (xs : List (DataW H × List MemPlace)), fs.mapM (fun fd => DataW.trod enc P w 0 (fun _ => true) true fuel fd.type ((cs.drop fd.offset).take (P.cellsOf fd.type))) = some xs →
    ∃ x, ok x ∧ (f x).length = n ∧ ∀ (i : Nat) (v : Value) (y : V), cs[k + i]? = some v → (f x)[i]? = some y → v.oneCell' = true ∧ RV (cz w) v y

theorem RdF.nil {P : Program} {k : Nat} : RdF P [] k 0 (fun _ : Unit => []) (fun _ => True) :=
  fun H enc w fuel cs xs h => ⟨(), trivial, rfl, fun i v y _ h => by simp at h⟩

theorem RdF.cons {P : Program} {fd : Field} {fs : List Field} {k n m : Nat} {α β : Type} {f : α → List V} {ok : α → Prop} {g : β → List V} {ok' : β → Prop} (ho : fd.offset = k) (h1 : Rd P fd.type n f ok) (h2 : RdF P fs (k + n) m g ok') :
    RdF P (fd :: fs) k (n + m) (fun p : α × β => f p.1 ++ g p.2) (fun p => ok p.1 ∧ ok' p.2) := by
  intro H enc w fuel cs xs h
  rw [List.mapM_cons] at h
  simp only [bind, Option.bind_eq_some_iff, pure, Option.some.injEq] at h
  obtain ⟨d, hd, xs', hxs, rfl⟩ := h
  obtain ⟨x, a1, a2, a3, a4⟩ := h1.2 H enc w fuel _ _ _ hd
  obtain ⟨y, b1, b2, b3⟩ := h2 H enc w fuel cs xs' hxs
  refine ⟨(x, y), ⟨a1, b1⟩, by simp [a2, b2], fun i v z hv hz => ?_⟩
  rw [List.getElem?_append] at hz
  split at hz
  · next hi =>
    refine a4 i v z ?_ hz
    rw [List.getElem?_take, if_pos (by rw [h1.1, ← a2]; exact hi), List.getElem?_drop, ho]
    exact hv
  · next hi =>
    refine b3 (i - (f x).length) v z ?_ hz
    have hi : ¬ i < (f x).length := hi
    rw [← hv]; congr 1; omega

theorem Rd.struct {P : Program} {t : TypeId} {fs : Array Field} {n : Nat} {α : Type} {f : α → List V} {ok : α → Prop} (hu : P.underlying t = some (.struct fs)) (hc : P.cellsOf t = n) (hf : RdF P fs.toList 0 n f ok) : Rd P t n f ok := by
  refine ⟨hc, fun H enc w fuel cs d ps h => ?_⟩
  cases fuel with
  | zero => simp [DataW.trod] at h
  | succ fuel =>
    have key : cs.length = P.cellsOf t ∧ ∃ xs, fs.toList.mapM (fun fd => DataW.trod enc P w 0 (fun _ => true) true fuel fd.type ((cs.drop fd.offset).take (P.cellsOf fd.type))) = some xs := by
      unfold DataW.trod at h
      rw [hu] at h
      simp only at h
      split at h
      · next hl =>
        rw [Option.map_eq_some_iff] at h
        obtain ⟨xs, h1, _⟩ := h
        exact ⟨hl, xs, h1⟩
      · cases h
    obtain ⟨hl, xs, hx⟩ := key
    obtain ⟨x, a1, a2, a3⟩ := hf H enc w fuel cs xs hx
    exact ⟨x, a1, a2, by rw [hl, hc], fun i v y hv hy => a3 i v y (by rw [Nat.zero_add]; exact hv) hy⟩

theorem Rd.map {P : Program} {t : TypeId} {n : Nat} {α β : Type} {f : α → List V} {ok : α → Prop} {g : β → List V} {ok' : β → Prop} (h : Rd P t n f ok) (hm : ∀ x, ok x → ∃ y, ok' y ∧ g y = f x) : Rd P t n g ok' := by
  refine ⟨h.1, fun H enc w fuel cs d ps ht => ?_⟩
  obtain ⟨x, a1, a2, a3, a4⟩ := h.2 H enc w fuel cs d ps ht
  obtain ⟨y, b1, b2⟩ := hm x a1
  exact ⟨y, b1, by rw [b2]; exact a2, a3, by rw [b2]; exact a4⟩

/-- An argument of one cell. -/
theorem Rd.arg1 {P : Program} {t : TypeId} {α : Type} {f : α → V} {ok : α → Prop} (h : Rd P t 1 (fun x => [f x]) ok) {H : Type} {enc : TypeId × Value → H} {w : World} {v : Value} {d : DataW H} {ps : List MemPlace} (ht : DataW.Trod enc P w 0 (fun _ => true) true t v d ps)
    (hone : v.oneCell' = true) : ∃ x, ok x ∧ RV (cz w) v (f x) := by
  obtain ⟨fuel, ht⟩ := ht
  obtain ⟨x, a1, a2, a3, a4⟩ := h.2 H enc w fuel _ d ps ht
  refine ⟨x, a1, (a4 0 v (f x) ?_ rfl).2⟩
  rw [cells_one hone]; rfl

/-- An argument of many. -/
theorem Rd.argN {P : Program} {t : TypeId} {n : Nat} {α : Type} {f : α → List V} {ok : α → Prop} (h : Rd P t n f ok) {H : Type} {enc : TypeId × Value → H} {w : World} {cs : Array Value} {d : DataW H} {ps : List MemPlace} (ht : DataW.Trod enc P w 0 (fun _ => true) true t (.agg cs) d ps) :
    ∃ x, ok x ∧ RV (cz w) (.agg cs) (.agg (f x)) := by
  obtain ⟨fuel, ht⟩ := ht
  obtain ⟨x, a1, a2, a3, a4⟩ := h.2 H enc w fuel _ d ps ht
  have a3 : cs.size = n := by simpa [Value.cells] using a3
  refine ⟨x, a1, .agg (by rw [a3, a2]) (fun i v hv => ?_) fun i v y hv hy => (a4 i v y (by simpa [Value.cells] using hv) hy).2⟩
  have hi : i < (f x).length := by rw [a2, ← a3]; exact (Array.getElem?_eq_some_iff.1 hv).1
  exact (a4 i v _ (by simpa [Value.cells] using hv) (List.getElem?_eq_getElem hi)).1

/-- A law's call. -/
theorem DC.law {P : Program} {f : FuncId} {xs : List V} (h : DC P f xs [] fun r _ => r = .bool true) {W : World} {args : Array Value} (hr : RVs (cz W) args xs) :
    Calls P f args W fun e W' => e = .returned (.bool true) ∧ RowKit.Below W.heap.size W W' := by
  refine (h W βz (fun _ => False) args (cz_hok W) hr).mono fun e W' hres => ?_
  obtain ⟨r, x, H', β', rfl, adv, hx, rfl⟩ := hres
  rw [hx.of_a]
  refine ⟨rfl, adv.ext.os, adv.ext.tape, adv.ext.output, adv.ext.size, fun k hk => adv.ext.block k hk fun ⟨i, e⟩ => ?_⟩
  simp [ownsB] at e

theorem RVs.cons {c : Cx} {v : Value} {x : V} {vs : Array Value} {xs : List V} (h : RV c v x) (hs : RVs c vs xs) : RVs c (#[v] ++ vs) (x :: xs) := by
  refine ⟨by simp [hs.1]; omega, fun i u y h1 h2 => ?_⟩
  cases i with
  | zero => simp [Array.getElem?_append] at h1 h2; subst h1; subst h2; exact h
  | succ i =>
    rw [Array.getElem?_append, if_neg (by simp)] at h1
    exact hs.2 i u y (by simpa using h1) (by simpa using h2)

end Go.Abs

/- The problems, as Lean data. -/
namespace Go.Abs

structure Var where
  name : ByteArray
  lo : Int
  hi : Int
structure Term where
  c : Int
  x : Int
structure Con where
  kind : Int
  op : Int
  terms : List Term
  k : Int
  v : Int
  x : Int
  y : Int
  xs : List Int
  table : List Int
  rows : List (List Int)
structure Model where
  vars : List Var
  cons : List Con
  hasGoal : Bool
  goal : List Term

abbrev V.i (n : Int) : V := .a (.int .i64 n)
def vInts (l : List Int) : V := .view 1 (l.map fun n => [V.i n])
def vIntss (l : List (List Int)) : V := .view 1 (l.map fun r => [vInts r])
def Term.cells (t : Term) : List V := [V.i t.c, V.i t.x]
def vTerms (l : List Term) : V := .view 2 (l.map Term.cells)
def Var.cells (v : Var) : List V := [.str v.name, V.i v.lo, V.i v.hi]
def vVars (l : List Var) : V := .view 3 (l.map Var.cells)
def Con.cells (c : Con) : List V := [V.i c.kind, V.i c.op, vTerms c.terms, V.i c.k, V.i c.v, V.i c.x, V.i c.y, vInts c.xs, vInts c.table, vIntss c.rows]
def vCons (l : List Con) : V := .view 10 (l.map Con.cells)
def Model.cells (m : Model) : List V := [vVars m.vars, vCons m.cons, .bool m.hasGoal, vTerms m.goal]

def I64 (n : Int) : Prop := -9223372036854775808 ≤ n ∧ n ≤ 9223372036854775807
def okInts (l : List Int) : Prop := l.length ≤ maxLen ∧ ∀ n ∈ l, I64 n
def okTerm (t : Term) : Prop := I64 t.c ∧ I64 t.x
def okVar (v : Var) : Prop := v.name.size ≤ maxLen ∧ I64 v.lo ∧ I64 v.hi
def okTerms (l : List Term) : Prop := l.length ≤ maxLen ∧ ∀ t ∈ l, okTerm t
def okCon (c : Con) : Prop := I64 c.kind ∧ I64 c.op ∧ okTerms c.terms ∧ I64 c.k ∧ I64 c.v ∧ I64 c.x ∧ I64 c.y ∧ okInts c.xs ∧ okInts c.table ∧ c.rows.length ≤ maxLen ∧ ∀ r ∈ c.rows, okInts r
def okModel (m : Model) : Prop := (m.vars.length ≤ maxLen ∧ ∀ v ∈ m.vars, okVar v) ∧ (m.cons.length ≤ maxLen ∧ ∀ c ∈ m.cons, okCon c) ∧ okTerms m.goal

/-- The types that the readings below speak of. -/
structure MTypes (P : Program) (tInt tBool tStr tInts tIntss tTerm tTerms tVar tVars tCon tCons tModel : TypeId) : Prop where
  int : P.underlying tInt = some (.int .i64) ∧ P.cellsOf tInt = 1
  bool : P.underlying tBool = some .bool ∧ P.cellsOf tBool = 1
  str : P.underlying tStr = some .string ∧ P.cellsOf tStr = 1
  ints : P.underlying tInts = some (.slice tInt) ∧ P.cellsOf tInts = 1
  intss : P.underlying tIntss = some (.slice tInts) ∧ P.cellsOf tIntss = 1
  term : ∃ fs, P.underlying tTerm = some (.struct fs) ∧ P.cellsOf tTerm = 2 ∧ fs.toList.map (fun f => (f.type, f.offset)) = [(tInt, 0), (tInt, 1)]
  terms : P.underlying tTerms = some (.slice tTerm) ∧ P.cellsOf tTerms = 1
  var : ∃ fs, P.underlying tVar = some (.struct fs) ∧ P.cellsOf tVar = 3 ∧ fs.toList.map (fun f => (f.type, f.offset)) = [(tStr, 0), (tInt, 1), (tInt, 2)]
  vars : P.underlying tVars = some (.slice tVar) ∧ P.cellsOf tVars = 1
  con : ∃ fs, P.underlying tCon = some (.struct fs) ∧ P.cellsOf tCon = 10 ∧ fs.toList.map (fun f => (f.type, f.offset)) = [(tInt, 0), (tInt, 1), (tTerms, 2), (tInt, 3), (tInt, 4), (tInt, 5), (tInt, 6), (tInts, 7), (tInts, 8), (tIntss, 9)]
  cons : P.underlying tCons = some (.slice tCon) ∧ P.cellsOf tCons = 1
  model : ∃ fs, P.underlying tModel = some (.struct fs) ∧ P.cellsOf tModel = 4 ∧ fs.toList.map (fun f => (f.type, f.offset)) = [(tVars, 0), (tCons, 1), (tBool, 2), (tTerms, 3)]

def fl (t : TypeId) (o : Nat) : Field := { (default : Field) with type := t, offset := o }

theorem RdF.of_map {P : Program} {fs : List Field} {k n : Nat} {α : Type} {g : α → List V} {ok : α → Prop} (h : RdF P fs k n g ok) {gs : List Field} (he : gs.map (fun f => (f.type, f.offset)) = fs.map (fun f => (f.type, f.offset))) : RdF P gs k n g ok := by
  intro H enc w fuel cs xs hx
  refine h H enc w fuel cs xs ?_
  have : ∀ (l : List Field), l.mapM (fun fd => DataW.trod enc P w 0 (fun _ => true) true fuel fd.type ((cs.drop fd.offset).take (P.cellsOf fd.type))) = (l.map fun f => (f.type, f.offset)).mapM (fun q => DataW.trod enc P w 0 (fun _ => true) true fuel q.1 ((cs.drop q.2).take (P.cellsOf q.1))) := by
    intro l
    induction l with
    | nil => rfl
    | cons a l ih => rw [List.map_cons, List.mapM_cons, List.mapM_cons, ih]
  rw [this] at hx ⊢
  rw [← he]; exact hx

section
variable {P : Program} {tInt tBool tStr tInts tIntss tTerm tTerms tVar tVars tCon tCons tModel : TypeId} (M : MTypes P tInt tBool tStr tInts tIntss tTerm tTerms tVar tVars tCon tCons tModel)
include M

theorem MTypes.rdInt : Rd P tInt 1 (fun n : Int => [V.i n]) I64 :=
  (Rd.int M.int.1 M.int.2).map fun n h => ⟨n, by
    have : (decide (IntKind.i64.min ≤ n) && decide (n ≤ IntKind.i64.max)) = true := h
    simp only [Bool.and_eq_true, decide_eq_true_eq] at this
    exact ⟨this.1, this.2⟩, rfl⟩

theorem MTypes.rdInts : Rd P tInts 1 (fun l : List Int => [vInts l]) okInts :=
  (Rd.slice M.ints.1 M.ints.2 (by omega) M.rdInt).map fun l h => ⟨l, h, rfl⟩

theorem MTypes.rdIntss : Rd P tIntss 1 (fun l : List (List Int) => [vIntss l]) (fun l => l.length ≤ maxLen ∧ ∀ r ∈ l, okInts r) :=
  (Rd.slice M.intss.1 M.intss.2 (by omega) M.rdInts).map fun l h => ⟨l, h, rfl⟩

theorem MTypes.rdTerm : Rd P tTerm 2 Term.cells okTerm := by
  obtain ⟨fs, h1, h2, h3⟩ := M.term
  refine (Rd.struct h1 h2 (RdF.of_map (fs := [fl tInt 0, fl tInt 1]) (.cons rfl M.rdInt (.cons rfl M.rdInt .nil)) h3)).map fun x h => ?_
  exact ⟨⟨x.1, x.2.1⟩, ⟨h.1, h.2.1⟩, rfl⟩

theorem MTypes.rdTerms : Rd P tTerms 1 (fun l : List Term => [vTerms l]) okTerms :=
  (Rd.slice M.terms.1 M.terms.2 (by omega) M.rdTerm).map fun l h => ⟨l, h, rfl⟩

theorem MTypes.rdVar : Rd P tVar 3 Var.cells okVar := by
  obtain ⟨fs, h1, h2, h3⟩ := M.var
  refine (Rd.struct h1 h2 (RdF.of_map (fs := [fl tStr 0, fl tInt 1, fl tInt 2]) (.cons rfl (Rd.str M.str.1 M.str.2) (.cons rfl M.rdInt (.cons rfl M.rdInt .nil))) h3)).map fun x h => ?_
  exact ⟨⟨x.1, x.2.1, x.2.2.1⟩, ⟨h.1, h.2.1, h.2.2.1⟩, rfl⟩

theorem MTypes.rdCon : Rd P tCon 10 Con.cells okCon := by
  obtain ⟨fs, h1, h2, h3⟩ := M.con
  refine (Rd.struct h1 h2 (RdF.of_map (fs := [fl tInt 0, fl tInt 1, fl tTerms 2, fl tInt 3, fl tInt 4, fl tInt 5, fl tInt 6, fl tInts 7, fl tInts 8, fl tIntss 9])
    (.cons rfl M.rdInt (.cons rfl M.rdInt (.cons rfl M.rdTerms (.cons rfl M.rdInt (.cons rfl M.rdInt (.cons rfl M.rdInt (.cons rfl M.rdInt (.cons rfl M.rdInts (.cons rfl M.rdInts (.cons rfl M.rdIntss .nil)))))))))) h3)).map fun x h => ?_
  obtain ⟨a1, a2, a3, a4, a5, a6, a7, a8, a9, a10, _⟩ := h
  exact ⟨⟨x.1, x.2.1, x.2.2.1, x.2.2.2.1, x.2.2.2.2.1, x.2.2.2.2.2.1, x.2.2.2.2.2.2.1, x.2.2.2.2.2.2.2.1, x.2.2.2.2.2.2.2.2.1, x.2.2.2.2.2.2.2.2.2.1⟩, ⟨a1, a2, a3, a4, a5, a6, a7, a8, a9, a10.1, a10.2⟩, rfl⟩

theorem MTypes.rdModel : Rd P tModel 4 Model.cells okModel := by
  obtain ⟨fs, h1, h2, h3⟩ := M.model
  refine (Rd.struct h1 h2 (RdF.of_map (fs := [fl tVars 0, fl tCons 1, fl tBool 2, fl tTerms 3])
    (.cons rfl (Rd.slice M.vars.1 M.vars.2 (by omega) M.rdVar) (.cons rfl (Rd.slice M.cons.1 M.cons.2 (by omega) M.rdCon) (.cons rfl (Rd.bool M.bool.1 M.bool.2) (.cons rfl M.rdTerms .nil)))) h3)).map fun x h => ?_
  obtain ⟨a1, a2, a3, a4, _⟩ := h
  exact ⟨⟨x.1, x.2.1, x.2.2.1, x.2.2.2.1⟩, ⟨a1, a2, a4⟩, rfl⟩

end
end Go.Abs

/- What the functions of the package model compute, as Lean functions. -/
namespace Go.Abs

structure Needs where
  terms : Bool
  xs : Bool
  table : Bool
  rows : Bool
  x : Bool
  y : Bool
  k : Bool
  op : Bool
  v : Bool
  deriving DecidableEq

/-- A kind's needs, as they lie in memory. -/
def Needs.cells (n : Needs) (f : FuncId) : List V := [.bool n.terms, .bool n.xs, .bool n.table, .bool n.rows, .bool n.x, .bool n.y, .bool n.k, .bool n.op, .bool n.v, .fn (.func f) [] []]

def needs (k : Int) : Option Needs :=
  if k = 1 then some ⟨true, false, false, false, false, false, true, true, false⟩
  else if k = 2 then some ⟨false, false, false, false, true, true, true, false, false⟩
  else if k = 3 then some ⟨false, true, false, false, false, false, false, false, false⟩
  else if k = 4 then some ⟨false, false, true, false, true, true, false, false, false⟩
  else if k = 5 then some ⟨false, true, false, false, false, true, false, false, false⟩
  else if k = 6 then some ⟨false, true, false, false, false, true, false, false, false⟩
  else if k = 7 then some ⟨true, false, false, false, true, false, true, false, false⟩
  else if k = 8 then some ⟨false, true, false, true, false, false, false, false, false⟩
  else if k = 9 then some ⟨false, true, false, false, false, false, true, true, true⟩
  else none

def withinB (n most : Int) : Bool := decide (-most ≤ n) && decide (n ≤ most)
def greatB (l : List Int) : Bool := l.any fun t => !withinB t 1000000000
def countsB (there : Bool) (n : Nat) : Bool := !there || (decide (1 ≤ n) && decide (n ≤ 64))
def badVarB (vars : Int) (l : List Term) : Bool := l.any fun t => decide (t.x < 0) || decide (vars ≤ t.x)
def badCoefB (l : List Term) : Bool := l.any fun t => decide (t.c = 0) || !withinB t.c 1000000
def noB (vars x : Int) : Bool := decide (x < 0) || decide (vars ≤ x)
def fieldB (c : Con) (n : Needs) : Bool :=
  (!n.op && decide (c.op ≠ 0)) || (!n.k && decide (c.k ≠ 0)) || (!n.v && decide (c.v ≠ 0)) || (!n.x && decide (c.x ≠ 0)) || (!n.y && decide (c.y ≠ 0)) ||
  (!n.terms && decide (0 < c.terms.length)) || (!n.xs && decide (0 < c.xs.length)) || (!n.table && decide (0 < c.table.length)) || (!n.rows && decide (0 < c.rows.length))
def wideB (c : Con) (n : Needs) : Bool :=
  n.rows && (decide (8 < c.xs.length) || !countsB true c.rows.length || c.rows.any fun r => decide (r.length ≠ c.xs.length))
def conN (c : Con) (vars : Int) (n : Needs) : Int :=
  if n.op && (decide (c.op < 1) || decide (3 < c.op)) then 43
  else if fieldB c n then 48
  else if !countsB n.terms c.terms.length || !countsB n.xs c.xs.length || !countsB n.table c.table.length || wideB c n then 47
  else if badVarB vars c.terms || (n.x && noB vars c.x) || (n.y && noB vars c.y) || c.xs.any (noB vars) then 44
  else if badCoefB c.terms then 45
  else if !withinB c.k 1000000000 || !withinB c.v 1000000000 || greatB c.table || c.rows.any greatB then 46
  else 0
def conB (c : Con) (vars : Int) : Int :=
  match needs c.kind with
  | none => 43
  | some n => conN c vars n

def letterB (r : Nat) : Bool := (decide (97 ≤ r) && decide (r ≤ 122)) || (decide (65 ≤ r) && decide (r ≤ 90)) || decide (r = 95)
def nameFrom (s : ByteArray) : Nat → Nat → Bool
  | 0, _ => true
  | f + 1, pos => if pos < s.size then
      (if !letterB (Utf8.decode s pos).1 && (decide (pos = 0) || decide ((Utf8.decode s pos).1 < 48) || decide (57 < (Utf8.decode s pos).1)) then false else nameFrom s f (pos + (Utf8.decode s pos).2))
    else true
def nameB (s : ByteArray) : Bool := nameFrom s (s.size + 1) 0 && decide (1 ≤ s.size) && decide (s.size ≤ 16)

def varB (l : List Var) (i : Nat) (v : Var) : Int :=
  if !nameB v.name || (l.take i).any fun w => decide (w.name = v.name) then 41
  else if !withinB v.lo 1000000000 || !withinB v.hi 1000000000 || decide (v.hi < v.lo) || decide (64 ≤ v.hi - v.lo) then 42
  else 0

def goalB (m : Model) : Int :=
  if !m.hasGoal && decide (0 < m.goal.length) then 48
  else if !countsB m.hasGoal m.goal.length then 47
  else if badVarB m.vars.length m.goal then 44
  else if badCoefB m.goal then 45
  else 0

/-- The first place of which something else than 0 is told. -/
def firstBad {α : Type} (f : Nat → α → Int) : Nat → List α → Option (Nat × Int)
  | _, [] => none
  | i, x :: l => if f i x = 0 then firstBad f (i + 1) l else some (i, f i x)

def checkB (m : Model) : Int × Int :=
  if m.vars.length = 0 ∨ 32 < m.vars.length then (0, 40)
  else match firstBad (varB m.vars) 0 m.vars with
    | some (i, e) => ((i : Int), e)
    | none => if 64 < m.cons.length then ((m.vars.length : Int), 49)
      else match firstBad (fun _ c => conB c m.vars.length) 0 m.cons with
        | some (i, e) => ((m.vars.length : Int) + i, e)
        | none => if goalB m = 0 then (0, 0) else ((m.vars.length : Int) + m.cons.length, goalB m)

def rightB (m : Model) : Bool := decide ((checkB m).2 = 0)

end Go.Abs

/- Worth, Floor, Ceil: plain laws. -/
namespace Go.Abs

def sumI (g : Int → Int) (l : List Term) : Int := (l.map fun t => t.c * g t.x).sum
def atI (l : List Int) (x : Int) : Int := l.getD x.toNat 0
def worthB (m : Model) (values : List Int) : Int :=
  if !rightB m || decide (values.length ≠ m.vars.length) || greatB values then 0 else sumI (atI values) m.goal
def varAt (m : Model) (x : Int) : Var := m.vars.getD x.toNat ⟨⟨#[]⟩, 0, 0⟩
def endOf (m : Model) (least : Bool) (t : Term) : Int := if decide (0 < t.c) = least then t.c * (varAt m t.x).lo else t.c * (varAt m t.x).hi
def endsI (m : Model) (least : Bool) (l : List Term) : Int := (l.map (endOf m least)).sum
def endsB (m : Model) (least : Bool) : Int := if !rightB m then 0 else endsI m least m.goal

def prodFrom (most : Int) : Int → List Var → Int × Bool
  | n, [] => (n, true)
  | n, v :: l => if most.tdiv (v.hi - v.lo + 1) < n then (0, false) else prodFrom most (n * (v.hi - v.lo + 1)) l
def prodB (m : Model) (most : Int) : Int × Bool := if !rightB m || decide (most < 1) then (0, false) else prodFrom most 1 m.vars

theorem mul_bound {c v : Int} (hc : -1000000 ≤ c ∧ c ≤ 1000000) (hv : -1000000000 ≤ v ∧ v ≤ 1000000000) : -1000000000000000 ≤ c * v ∧ c * v ≤ 1000000000000000 := by
  have h : (c * v).natAbs ≤ 1000000 * 1000000000 := by
    rw [Int.natAbs_mul]
    exact Nat.mul_le_mul (by omega) (by omega)
  omega

theorem firstBad_none {α : Type} {f : Nat → α → Int} : ∀ {l : List α} {i : Nat}, firstBad f i l = none → ∀ (j : Nat) (x : α), l[j]? = some x → f (i + j) x = 0 := by
  intro l
  induction l with
  | nil => intro i _ j x h; simp at h
  | cons y l ih =>
    intro i h j x hj
    simp only [firstBad] at h
    split at h
    · next h0 =>
      cases j with
      | zero => simp at hj; subst hj; simpa using h0
      | succ j =>
        have := ih h j x (by simpa using hj)
        rw [← this]; congr 1; omega
    · cases h

theorem firstBad_some {α : Type} {f : Nat → α → Int} : ∀ {l : List α} {i : Nat} {p : Nat × Int}, firstBad f i l = some p → p.2 ≠ 0 := by
  intro l
  induction l with
  | nil => intro i p h; simp [firstBad] at h
  | cons y l ih =>
    intro i p h
    simp only [firstBad] at h
    split at h
    · exact ih h
    · next h0 => cases h; exact h0

structure Right (m : Model) : Prop where
  nv : 1 ≤ m.vars.length ∧ m.vars.length ≤ 32
  nc : m.cons.length ≤ 64
  var : ∀ (i : Nat) (v : Var), m.vars[i]? = some v → varB m.vars i v = 0
  con : ∀ c ∈ m.cons, conB c m.vars.length = 0
  goal : goalB m = 0

theorem right_iff {m : Model} : rightB m = true ↔ Right m := by
  unfold rightB checkB
  simp only [decide_eq_true_eq]
  constructor
  · intro h
    split at h
    · simp at h
    · next h1 =>
      split at h
      · next p i e hp => exact absurd h (firstBad_some hp)
      · next hv =>
        split at h
        · simp at h
        · next h2 =>
          split at h
          · next p i e hp => exact absurd h (firstBad_some hp)
          · next hc =>
            split at h
            · next hg =>
              refine ⟨by omega, by omega, fun i v hi => ?_, fun c hc' => ?_, hg⟩
              · have := firstBad_none hv i v hi; simpa using this
              · obtain ⟨j, hj⟩ := List.getElem?_of_mem hc'
                have := firstBad_none hc j c hj; simpa using this
            · next hg => exact absurd h hg
  · intro h
    rw [if_neg (by have := h.nv; omega)]
    have key : ∀ {α : Type} (f : Nat → α → Int) (l : List α) (i : Nat), (∀ (j : Nat) (x : α), l[j]? = some x → f (i + j) x = 0) → firstBad f i l = none := by
      intro α f l
      induction l with
      | nil => intro i _; rfl
      | cons x l ih =>
        intro i h
        simp only [firstBad]
        rw [if_pos (by simpa using h 0 x rfl)]
        refine ih _ fun j y hj => ?_
        have := h (j + 1) y (by simpa using hj)
        rw [← this]; congr 1; omega
    rw [key _ m.vars 0 fun j x hj => by rw [Nat.zero_add]; exact h.var j x hj]
    simp only
    rw [if_neg (by have := h.nc; omega), key _ m.cons 0 fun j x hj => h.con x (List.mem_of_getElem? hj)]
    simp [h.goal]

structure VarOk (v : Var) : Prop where
  lo : -1000000000 ≤ v.lo ∧ v.lo ≤ 1000000000
  hi : -1000000000 ≤ v.hi ∧ v.hi ≤ 1000000000
  le : v.lo ≤ v.hi
  dom : v.hi - v.lo < 64

theorem VarOk.of {l : List Var} {i : Nat} {v : Var} (h : varB l i v = 0) : VarOk v := by
  unfold varB at h
  split at h
  · cases h
  · split at h
    · cases h
    · next h2 =>
      simp only [withinB, Bool.or_eq_true, Bool.not_eq_true', Bool.and_eq_false_iff, decide_eq_true_eq, decide_eq_false_iff_not, not_or, Bool.not_eq_false] at h2
      constructor <;> omega

structure TermOk (vars : Nat) (t : Term) : Prop where
  x : 0 ≤ t.x ∧ t.x < vars
  c : -1000000 ≤ t.c ∧ t.c ≤ 1000000 ∧ t.c ≠ 0

theorem TermOk.of {vars : Nat} {l : List Term} (h1 : badVarB vars l = false) (h2 : badCoefB l = false) : ∀ t ∈ l, TermOk vars t := by
  intro t ht
  unfold badVarB at h1
  unfold badCoefB at h2
  rw [List.any_eq_false] at h1 h2
  have h1 := h1 t ht
  have h2 := h2 t ht
  simp only [withinB, Bool.or_eq_true, Bool.not_eq_true', Bool.and_eq_false_iff, decide_eq_true_eq, decide_eq_false_iff_not, not_or, Bool.not_eq_false] at h1 h2
  constructor <;> omega

theorem Right.terms {m : Model} (h : Right m) : (∀ t ∈ m.goal, TermOk m.vars.length t) ∧ m.goal.length ≤ 64 := by
  have hg := h.goal
  unfold goalB at hg
  split at hg
  · cases hg
  · next h1 =>
    split at hg
    · cases hg
    · next h2 =>
      split at hg
      · cases hg
      · next h3 =>
        split at hg
        · cases hg
        · next h4 =>
          refine ⟨TermOk.of (by simpa using h3) (by simpa using h4), ?_⟩
          simp [countsB] at h1 h2
          cases hh : m.hasGoal
          · simp [h1 hh]
          · have := h2 hh
            omega

/-- A problem's variable at a place. -/
theorem Right.varAt {m : Model} (h : Right m) {x : Int} (h0 : 0 ≤ x) (h1 : x < m.vars.length) : m.vars[x.toNat]? = some (varAt m x) ∧ VarOk (varAt m x) := by
  have hi : x.toNat < m.vars.length := by omega
  have : m.vars[x.toNat]? = some (Abs.varAt m x) := by simp [Abs.varAt, List.getD, List.getElem?_eq_getElem hi]
  exact ⟨this, VarOk.of (h.var _ _ this)⟩

/-- Values within the bounds. -/
def Within (m : Model) (l : List Int) : Prop := l.length = m.vars.length ∧ ∀ (i : Nat) (v : Var), m.vars[i]? = some v → v.lo ≤ l.getD i 0 ∧ l.getD i 0 ≤ v.hi

theorem Within.great {m : Model} (h : Right m) {l : List Int} (hw : Within m l) : greatB l = false := by
  unfold greatB
  rw [List.any_eq_false]
  intro x hx
  obtain ⟨i, hi⟩ := List.getElem?_of_mem hx
  have hlt : i < m.vars.length := by rw [← hw.1]; exact (List.getElem?_eq_some_iff.1 hi).1
  have hv := List.getElem?_eq_getElem hlt
  have h1 := hw.2 i _ hv
  have h2 := VarOk.of (h.var i _ hv)
  have h3 : l.getD i 0 = x := by simp [List.getD, hi]
  rw [h3] at h1
  have := h2.lo; have := h2.hi
  simp [withinB]
  omega

theorem mul_le_of {c a b : Int} (hc : 0 ≤ c) (h : a ≤ b) : c * a ≤ c * b := Int.mul_le_mul_of_nonneg_left h hc
theorem mul_ge_of {c a b : Int} (hc : c ≤ 0) (h : a ≤ b) : c * b ≤ c * a := Int.mul_le_mul_of_nonpos_left hc h

theorem sum_le {α : Type} {f g : α → Int} : ∀ {l : List α}, (∀ x ∈ l, f x ≤ g x) → (l.map f).sum ≤ (l.map g).sum := by
  intro l
  induction l with
  | nil => intro _; simp
  | cons x l ih =>
    intro h
    have h1 := h x (by simp)
    have h2 := ih fun y hy => h y (by simp [hy])
    simp only [List.map_cons, List.sum_cons]
    omega

theorem worth_within {m : Model} (hr : rightB m = true) {l : List Int} (hw : Within m l) : worthB m l = sumI (atI l) m.goal := by
  unfold worthB
  rw [if_neg]
  simp [hr, hw.1, hw.great (right_iff.1 hr)]

/-- P4.9: between the ends. -/
theorem worth_between {m : Model} (hr : rightB m = true) {l : List Int} (hw : Within m l) : endsB m true ≤ worthB m l ∧ worthB m l ≤ endsB m false := by
  rw [worth_within hr hw]
  have h := right_iff.1 hr
  unfold endsB
  simp only [hr, Bool.not_true, Bool.false_eq_true, if_false]
  have key : ∀ t ∈ m.goal, (varAt m t.x).lo ≤ atI l t.x ∧ atI l t.x ≤ (varAt m t.x).hi := by
    intro t ht
    have ht := h.terms.1 t ht
    exact hw.2 _ _ (h.varAt ht.x.1 ht.x.2).1
  constructor
  · refine sum_le fun t ht => ?_
    have h1 := key t ht
    unfold endOf
    by_cases hc : 0 < t.c
    · simp only [hc, decide_true, if_true]; exact mul_le_of (by omega) h1.1
    · simp only [hc, decide_false, Bool.false_eq_true, if_false]; exact mul_ge_of (by omega) h1.2
  · refine sum_le fun t ht => ?_
    have h1 := key t ht
    unfold endOf
    by_cases hc : 0 < t.c
    · simp only [hc, decide_true, Bool.true_eq_false, if_false]; exact mul_le_of (by omega) h1.2
    · simp only [hc, decide_false, if_true]; exact mul_ge_of (by omega) h1.1

/-- The ends are reached by values that stand where each term wants. -/
theorem worth_ends {m : Model} (hr : rightB m = true) {l : List Int} (hw : Within m l) (least : Bool) (hl : ∀ t ∈ m.goal, atI l t.x = if decide (0 < t.c) = least then (varAt m t.x).lo else (varAt m t.x).hi) : worthB m l = endsB m least := by
  rw [worth_within hr hw]
  unfold endsB
  simp only [hr, Bool.not_true, Bool.false_eq_true, if_false]
  unfold sumI endsI
  congr 1
  refine List.map_congr_left fun t ht => ?_
  rw [hl t ht]
  unfold endOf
  split <;> rfl

end Go.Abs

namespace Go.Abs.G
open Go.Proofs
set_option linter.unusedVariables false

theorem within_spec (n most : Int) (h0 : 0 ≤ most) (h1 : most ≤ 9223372036854775807) : Pf Try.prog model_within.id [V.i n, V.i most] (.bool (withinB n most)) := by
  refine DC.of model_within.ok (by simp) ?_
  have hw : IntKind.i64.wrap (-most) = -most := wrap64 (by omega) (by omega)
  simp [model_within.ir, model_within.rs, hw, withinB]
  by_cases h : -most ≤ n <;> simp [h] <;> omega

theorem great1_spec (n : Int) : Pf Try.prog model_great_1.id [V.i n] (.bool (!withinB n 1000000000)) := by
  refine DC.of model_great_1.ok (by simp) ?_
  simp [model_great_1.ir, model_great_1.rs]
  exact (within_spec n 1000000000 (by decide) (by decide)).use (by simp)

/-- The place of the first of which something is told. -/
def firstAt {α : Type} (p : α → Bool) : Nat → List α → Int
  | _, [] => -1
  | i, x :: l => if p x then i else firstAt p (i + 1) l

theorem firstAt_any {α : Type} (p : α → Bool) : ∀ (l : List α) (i : Nat), decide (0 ≤ firstAt p i l) = l.any p := by
  intro l
  induction l with
  | nil => intro i; simp [firstAt]
  | cons x l ih =>
    intro i
    simp only [firstAt, List.any_cons]
    by_cases h : p x = true
    · simp [h]
    · simp [h, ih]

theorem firstAt_drop {α : Type} (p : α → Bool) {l : List α} {i : Nat} (h : i < l.length) : firstAt p i (l.drop i) = if p l[i] then (i : Int) else firstAt p (i + 1) (l.drop (i + 1)) := by
  rw [List.drop_eq_getElem_cons h]; rfl

theorem index_int_spec {f : FuncId} {cap : List V} {p : Int → Bool} {l : List Int} (hok : okFunc Try.prog f = true) (hids : V.idsL cap = []) (hg : ∀ t ∈ l, DP Try.prog f (V.i t :: cap) fun r => r = .bool (p t)) (hl : l.length ≤ maxLen) :
    Pf Try.prog slices_IndexFunc_Lint_int.id [vInts l, .fn (.func f) [] cap] (V.i (firstAt p 0 l)) := by
  have hm : (maxLen : Int) ≤ 9223372036854775807 := by decide
  refine DC.of slices_IndexFunc_Lint_int.ok (by simp) ?_
  simp [slices_IndexFunc_Lint_int.ir, slices_IndexFunc_Lint_int.rs, vInts]
  refine WI.loop 0 (by simp) (fun s => ∃ i, i ≤ l.length ∧ gt s.sl 1 = .fn (.func f) [] cap ∧ gt s.sl 0 = vInts l ∧ gt s.sl 7 = V.i l.length ∧ gt s.sl 8 = V.i i ∧ s.hp = [] ∧ firstAt p 0 l = firstAt p i (l.drop i)) (fun s => (l.length - (gt s.sl 8).num).toNat) ?_ ?_
  · exact ⟨0, by simp [vInts]⟩
  · rintro ⟨sl, hp, bs⟩ ⟨i, hi, h1, h0, h7, h8, rfl, he⟩
    by_cases hil : i < l.length
    · simp [slices_IndexFunc_Lint_int.b0, h1, h0, h7, h8, vInts, hil, hok, hids]
      refine DP.mono (hg _ (List.getElem_mem hil)) fun r hr => ?_
      subst hr
      rw [firstAt_drop p hil] at he
      have hw : IntKind.i64.wrap ((i : Int) + 1) = ((i + 1 : Nat) : Int) := by rw [wrap64] <;> omega
      cases hp : p l[i]
      · simp [hw, he, hp]
        exact ⟨⟨i + 1, by omega, by omega, rfl⟩, by omega⟩
      · simp [he, hp]
    · obtain rfl : i = l.length := by omega
      simp [slices_IndexFunc_Lint_int.b0, h1, h0, h7, h8, he, firstAt]

theorem contains_int_spec {f : FuncId} {cap : List V} {p : Int → Bool} {l : List Int} (hok : okFunc Try.prog f = true) (hids : V.idsL cap = []) (hg : ∀ t ∈ l, DP Try.prog f (V.i t :: cap) fun r => r = .bool (p t)) (hl : l.length ≤ maxLen) :
    Pf Try.prog slices_ContainsFunc_Lint_int.id [vInts l, .fn (.func f) [] cap] (.bool (l.any p)) := by
  refine DC.of slices_ContainsFunc_Lint_int.ok (by simp) ?_
  simp [slices_ContainsFunc_Lint_int.ir, slices_ContainsFunc_Lint_int.rs, vInts, hids]
  refine (index_int_spec hok hids hg hl).use ?_
  simp [firstAt_any]

theorem great_spec (l : List Int) (hl : l.length ≤ maxLen) : Pf Try.prog model_great.id [vInts l] (.bool (greatB l)) := by
  refine DC.of model_great.ok (by simp) ?_
  simp [model_great.ir, model_great.rs, vInts]
  refine (contains_int_spec (by simp) (by simp) (fun t _ => great1_spec t) hl).use ?_
  simp [greatB]

theorem counts_spec (b : Bool) (n : Nat) : Pf Try.prog model_counts.id [.bool b, V.i n] (.bool (countsB b n)) := by
  refine DC.of model_counts.ok (by simp) ?_
  simp [model_counts.ir, model_counts.rs, countsB]
  cases b <;> by_cases h : 1 ≤ n <;> simp [h] <;> omega

end Go.Abs.G

namespace Go.Abs.G
open Go.Proofs
set_option linter.unusedVariables false
theorem index_ints_spec {f : FuncId} {cap : List V} {p : List Int → Bool} {l : List (List Int)} (hok : okFunc Try.prog f = true) (hids : V.idsL cap = []) (hg : ∀ t ∈ l, DP Try.prog f (vInts t :: cap) fun r => r = .bool (p t)) (hl : l.length ≤ maxLen) :
    Pf Try.prog slices_IndexFunc_LLint_Lint.id [vIntss l, .fn (.func f) [] cap] (V.i (firstAt p 0 l)) := by
  have hm : (maxLen : Int) ≤ 9223372036854775807 := by decide
  refine DC.of slices_IndexFunc_LLint_Lint.ok (by simp) ?_
  simp [slices_IndexFunc_LLint_Lint.ir, slices_IndexFunc_LLint_Lint.rs, vIntss]
  refine WI.loop 0 (by simp) (fun s => ∃ i, i ≤ l.length ∧ gt s.sl 1 = .fn (.func f) [] cap ∧ gt s.sl 0 = vIntss l ∧ gt s.sl 7 = V.i l.length ∧ gt s.sl 8 = V.i i ∧ s.hp = [] ∧ firstAt p 0 l = firstAt p i (l.drop i)) (fun s => (l.length - (gt s.sl 8).num).toNat) ?_ ?_
  · exact ⟨0, by simp [vIntss]⟩
  · rintro ⟨sl, hp, bs⟩ ⟨i, hi, h1, h0, h7, h8, rfl, he⟩
    by_cases hil : i < l.length
    · simp [slices_IndexFunc_LLint_Lint.b0, h1, h0, h7, h8, vIntss, vInts, hil, hok, hids]
      refine DP.mono (hg _ (List.getElem_mem hil)) fun r hr => ?_
      subst hr
      rw [firstAt_drop p hil] at he
      have hw : IntKind.i64.wrap ((i : Int) + 1) = ((i + 1 : Nat) : Int) := by rw [wrap64] <;> omega
      cases hp : p l[i]
      · simp [hw, he, hp]
        exact ⟨⟨i + 1, by omega, by omega, rfl⟩, by omega⟩
      · simp [he, hp]
    · obtain rfl : i = l.length := by omega
      simp [slices_IndexFunc_LLint_Lint.b0, h1, h0, h7, h8, he, firstAt]

theorem contains_ints_spec {f : FuncId} {cap : List V} {p : List Int → Bool} {l : List (List Int)} (hok : okFunc Try.prog f = true) (hids : V.idsL cap = []) (hg : ∀ t ∈ l, DP Try.prog f (vInts t :: cap) fun r => r = .bool (p t)) (hl : l.length ≤ maxLen) :
    Pf Try.prog slices_ContainsFunc_LLint_Lint.id [vIntss l, .fn (.func f) [] cap] (.bool (l.any p)) := by
  refine DC.of slices_ContainsFunc_LLint_Lint.ok (by simp) ?_
  simp [slices_ContainsFunc_LLint_Lint.ir, slices_ContainsFunc_LLint_Lint.rs, vIntss, hids]
  refine (index_ints_spec hok hids hg hl).use ?_
  simp [firstAt_any]

theorem index_var_spec {f : FuncId} {cap : List V} {p : Var → Bool} {l : List (Var)} (hok : okFunc Try.prog f = true) (hids : V.idsL cap = []) (hg : ∀ t ∈ l, DP Try.prog f (.agg t.cells :: cap) fun r => r = .bool (p t)) (hl : l.length ≤ maxLen) :
    Pf Try.prog slices_IndexFunc_Lapi_Var_api_Var.id [vVars l, .fn (.func f) [] cap] (V.i (firstAt p 0 l)) := by
  have hm : (maxLen : Int) ≤ 9223372036854775807 := by decide
  refine DC.of slices_IndexFunc_Lapi_Var_api_Var.ok (by simp) ?_
  simp [slices_IndexFunc_Lapi_Var_api_Var.ir, slices_IndexFunc_Lapi_Var_api_Var.rs, vVars]
  refine WI.loop 0 (by simp) (fun s => ∃ i, i ≤ l.length ∧ gt s.sl 1 = .fn (.func f) [] cap ∧ gt s.sl 0 = vVars l ∧ gt s.sl 7 = V.i l.length ∧ gt s.sl 8 = V.i i ∧ s.hp = [] ∧ firstAt p 0 l = firstAt p i (l.drop i)) (fun s => (l.length - (gt s.sl 8).num).toNat) ?_ ?_
  · exact ⟨0, by simp [vVars]⟩
  · rintro ⟨sl, hp, bs⟩ ⟨i, hi, h1, h0, h7, h8, rfl, he⟩
    by_cases hil : i < l.length
    · simp [slices_IndexFunc_Lapi_Var_api_Var.b0, h1, h0, h7, h8, vVars, Var.cells, hil, hok, hids]
      refine DP.mono (hg _ (List.getElem_mem hil)) fun r hr => ?_
      subst hr
      rw [firstAt_drop p hil] at he
      have hw : IntKind.i64.wrap ((i : Int) + 1) = ((i + 1 : Nat) : Int) := by rw [wrap64] <;> omega
      cases hp : p l[i]
      · simp [hw, he, hp]
        exact ⟨⟨i + 1, by omega, by omega, rfl⟩, by omega⟩
      · simp [he, hp]
    · obtain rfl : i = l.length := by omega
      simp [slices_IndexFunc_Lapi_Var_api_Var.b0, h1, h0, h7, h8, he, firstAt]

theorem contains_var_spec {f : FuncId} {cap : List V} {p : Var → Bool} {l : List (Var)} (hok : okFunc Try.prog f = true) (hids : V.idsL cap = []) (hg : ∀ t ∈ l, DP Try.prog f (.agg t.cells :: cap) fun r => r = .bool (p t)) (hl : l.length ≤ maxLen) :
    Pf Try.prog slices_ContainsFunc_Lapi_Var_api_Var.id [vVars l, .fn (.func f) [] cap] (.bool (l.any p)) := by
  refine DC.of slices_ContainsFunc_Lapi_Var_api_Var.ok (by simp) ?_
  simp [slices_ContainsFunc_Lapi_Var_api_Var.ir, slices_ContainsFunc_Lapi_Var_api_Var.rs, vVars, hids]
  refine (index_var_spec hok hids hg hl).use ?_
  simp [firstAt_any]

theorem index_con_spec {f : FuncId} {cap : List V} {p : Con → Bool} {l : List (Con)} (hok : okFunc Try.prog f = true) (hids : V.idsL cap = []) (hg : ∀ t ∈ l, DP Try.prog f (.agg t.cells :: cap) fun r => r = .bool (p t)) (hl : l.length ≤ maxLen) :
    Pf Try.prog slices_IndexFunc_Lapi_Con_api_Con.id [vCons l, .fn (.func f) [] cap] (V.i (firstAt p 0 l)) := by
  have hm : (maxLen : Int) ≤ 9223372036854775807 := by decide
  refine DC.of slices_IndexFunc_Lapi_Con_api_Con.ok (by simp) ?_
  simp [slices_IndexFunc_Lapi_Con_api_Con.ir, slices_IndexFunc_Lapi_Con_api_Con.rs, vCons]
  refine WI.loop 0 (by simp) (fun s => ∃ i, i ≤ l.length ∧ gt s.sl 1 = .fn (.func f) [] cap ∧ gt s.sl 0 = vCons l ∧ gt s.sl 7 = V.i l.length ∧ gt s.sl 8 = V.i i ∧ s.hp = [] ∧ firstAt p 0 l = firstAt p i (l.drop i)) (fun s => (l.length - (gt s.sl 8).num).toNat) ?_ ?_
  · exact ⟨0, by simp [vCons]⟩
  · rintro ⟨sl, hp, bs⟩ ⟨i, hi, h1, h0, h7, h8, rfl, he⟩
    by_cases hil : i < l.length
    · simp [slices_IndexFunc_Lapi_Con_api_Con.b0, h1, h0, h7, h8, vCons, Con.cells, vTerms, vInts, vIntss, hil, hok, hids]
      refine DP.mono (hg _ (List.getElem_mem hil)) fun r hr => ?_
      subst hr
      rw [firstAt_drop p hil] at he
      have hw : IntKind.i64.wrap ((i : Int) + 1) = ((i + 1 : Nat) : Int) := by rw [wrap64] <;> omega
      cases hp : p l[i]
      · simp [hw, he, hp]
        exact ⟨⟨i + 1, by omega, by omega, rfl⟩, by omega⟩
      · simp [he, hp]
    · obtain rfl : i = l.length := by omega
      simp [slices_IndexFunc_Lapi_Con_api_Con.b0, h1, h0, h7, h8, he, firstAt]

theorem contains_con_spec {f : FuncId} {cap : List V} {p : Con → Bool} {l : List (Con)} (hok : okFunc Try.prog f = true) (hids : V.idsL cap = []) (hg : ∀ t ∈ l, DP Try.prog f (.agg t.cells :: cap) fun r => r = .bool (p t)) (hl : l.length ≤ maxLen) :
    Pf Try.prog slices_ContainsFunc_Lapi_Con_api_Con.id [vCons l, .fn (.func f) [] cap] (.bool (l.any p)) := by
  refine DC.of slices_ContainsFunc_Lapi_Con_api_Con.ok (by simp) ?_
  simp [slices_ContainsFunc_Lapi_Con_api_Con.ir, slices_ContainsFunc_Lapi_Con_api_Con.rs, vCons, hids]
  refine (index_con_spec hok hids hg hl).use ?_
  simp [firstAt_any]
end Go.Abs.G

/- A cut: what stands between two pieces of code. -/
namespace Go.Abs

@[simp] theorem gt_trimS (n : Nat) (l : Sl) (t : Nat) : gt (trimS n l) t = lim n (gt l t) := rfl

theorem vcIts_mono' {P : Program} {K K' : St → Prop} (hk : ∀ s, K s → K' s) : ∀ {l : List It} {st : St}, vcIts P l K st → vcIts P l K' st := by
  intro l
  induction l with
  | nil => intro st h; exact hk _ h
  | cons it l ih =>
    intro st h
    cases it with
    | g i => exact I.vc_mono h fun s => ih
    | o j i => exact I.vc_mono h fun s => ih
    | gd j s want d i =>
      simp only [vcIts] at h ⊢
      split at h
      · next b e => exact ⟨fun hb => I.vc_mono (h.1 hb) fun s => ih, fun hb => ih (h.2 hb)⟩
      · next e => exact ih h
      · exact h.elim

theorem vc_mono {P : Program} : ∀ {c : C} {Q Q' : Ex → St → Prop} {st : St}, (∀ e s, Q e s → Q' e s) → vc P c Q st → vc P c Q' st := by
  intro c
  induction c with
  | skip => intro Q Q' st hq h; exact hq _ _ h
  | reg n its => intro Q Q' st hq h; exact vcIts_mono' (fun s => hq _ s) h
  | seq a b iha ihb =>
    intro Q Q' st hq h
    refine iha (fun e s hs => ?_) h
    cases e with
    | norm => exact ihb hq hs
    | exit i => exact hq _ _ hs
    | ret => exact hq _ _ hs
  | cond x a b iha ihb =>
    intro Q Q' st hq h
    simp only [vc] at h ⊢
    split at h
    · exact ⟨fun ht => iha hq (h.1 ht), fun ht => ihb hq (h.2 ht)⟩
    · exact h.elim
  | block id c ih =>
    intro Q Q' st hq h
    refine ih (fun e s hs => ?_) h
    cases e with
    | norm => exact hq _ _ hs
    | exit i =>
      simp only at hs ⊢
      by_cases hi : i = id
      · rw [if_pos hi] at hs ⊢; exact hq _ _ hs
      · rw [if_neg hi] at hs ⊢; exact hq _ _ hs
    | ret => exact hq _ _ hs
  | loop c ih => intro Q Q' st hq h; exact WI.mono h hq
  | exit i => intro Q Q' st hq h; exact hq _ _ h
  | ret => intro Q Q' st hq h; exact hq _ _ h

theorem vc_cut {P : Program} {a b : C} {Q : Ex → St → Prop} {st : St} (R : St → Prop) (h1 : vc P a (fun e s => match e with | .norm => R s | .exit i => Q (.exit i) s | .ret => Q .ret s) st) (h2 : ∀ s, R s → vc P b Q s) : vc P (.seq a b) Q st := by
  show vc P a _ st
  refine vc_mono (fun e s hs => ?_) h1
  cases e with
  | norm => exact h2 s hs
  | exit i => exact hs
  | ret => exact hs

theorem vcIts_cut {P : Program} {K : St → Prop} {l : List It} {st : St} (n : Nat) (R : St → Prop) (h1 : vcIts P (l.take n) R st) (h2 : ∀ s, R s → vcIts P (l.drop n) K s) : vcIts P l K st := by
  rw [← List.take_append_drop n l, vcIts_append]
  exact vcIts_mono' h2 h1

theorem vc_reg_of {P : Program} {n : Nat} {its : List It} {Q : Ex → St → Prop} {st : St} (h : vcIts P its (Q .norm) (st.res n)) : vc P (.reg n its) Q st := h

theorem vc_block_of {P : Program} {id : Nat} {c : C} {Q : Ex → St → Prop} {st : St} (h : vc P c (fun e s => match e with | .norm => Q .norm s | .exit i => if i = id then Q .norm s else Q (.exit i) s | .ret => Q .ret s) st) : vc P (.block id c) Q st := h
end Go.Abs

namespace Go.Abs.G
open Go.Proofs
set_option linter.unusedVariables false
theorem any_take_succ {α : Type} (p : α → Bool) {l : List α} {i : Nat} (h : i < l.length) : (l.take (i + 1)).any p = ((l.take i).any p || p l[i]) := by
  rw [List.take_succ_eq_append_getElem h, List.any_append]; simp

theorem terms_spec (l : List Term) (vars : Int) (hl : l.length ≤ maxLen) :
    Pf Try.prog model_terms.id [vTerms l, V.i vars] (.tup [.bool (badVarB vars l), .bool (badCoefB l)]) := by
  have hm : (maxLen : Int) ≤ 9223372036854775807 := by decide
  refine DC.of model_terms.ok (by simp) ?_
  simp [model_terms.ir, model_terms.rs, vTerms]
  refine WI.loop 0 (by simp) (fun s => ∃ i, i ≤ l.length ∧ gt s.sl 1 = V.i vars ∧ gt s.sl 4 = .bool (badVarB vars (l.take i)) ∧ gt s.sl 5 = .bool (badCoefB (l.take i)) ∧ gt s.sl 8 = vTerms l ∧ gt s.sl 9 = V.i l.length ∧ gt s.sl 10 = V.i i ∧ s.hp = []) (fun s => (l.length - (gt s.sl 10).num).toNat) ?_ ?_
  · exact ⟨0, by simp [vTerms, badVarB, badCoefB]⟩
  · rintro ⟨sl, hp, bs⟩ ⟨i, hi, h1, h4, h5, h8, h9, h10, rfl⟩
    by_cases hil : i < l.length
    · have e1 : badVarB vars (l.take (i + 1)) = (badVarB vars (l.take i) || (decide (l[i].x < 0) || decide (vars ≤ l[i].x))) := any_take_succ _ hil
      have e2 : badCoefB (l.take (i + 1)) = (badCoefB (l.take i) || (decide (l[i].c = 0) || !withinB l[i].c 1000000)) := any_take_succ _ hil
      have hw : IntKind.i64.wrap ((i : Int) + 1) = ((i + 1 : Nat) : Int) := by rw [wrap64] <;> omega
      have g10 := h10
      unfold model_terms.b0
      refine vc_cut (fun s => gt s.sl 1 = V.i vars ∧ gt s.sl 4 = .bool (badVarB vars (l.take i)) ∧ gt s.sl 5 = .bool (badCoefB (l.take i)) ∧ gt s.sl 8 = vTerms l ∧ gt s.sl 9 = V.i l.length ∧ gt s.sl 10 = V.i i ∧ gt s.sl 11 = V.bool true ∧ s.hp = []) (by simp [h1, h4, h5, h8, h9, h10, hil]) ?_
      rintro ⟨sl, hp, bs⟩ ⟨h1, h4, h5, h8, h9, h10, h11, rfl⟩
      refine vc_cut (fun s => gt s.sl 1 = V.i vars ∧ gt s.sl 4 = .bool (badVarB vars (l.take i)) ∧ gt s.sl 5 = .bool (badCoefB (l.take i)) ∧ gt s.sl 8 = vTerms l ∧ gt s.sl 9 = V.i l.length ∧ gt s.sl 10 = V.i i ∧ s.hp = []) (by simp [h1, h4, h5, h8, h9, h10, h11, hil]) ?_
      rintro ⟨sl, hp, bs⟩ ⟨h1, h4, h5, h8, h9, h10, rfl⟩
      refine vc_cut (fun s => gt s.sl 1 = V.i vars ∧ gt s.sl 4 = .bool (badVarB vars (l.take (i + 1))) ∧ gt s.sl 5 = .bool (badCoefB (l.take (i + 1))) ∧ gt s.sl 8 = vTerms l ∧ gt s.sl 9 = V.i l.length ∧ gt s.sl 10 = V.i i ∧ s.hp = [.mem false [] [l[i].cells]]) (vc_block_of ?_) ?_
      · refine vc_cut (fun s => gt s.sl 1 = V.i vars ∧ gt s.sl 4 = .bool (badVarB vars (l.take i)) ∧ gt s.sl 5 = .bool (badCoefB (l.take i)) ∧ gt s.sl 7 = .ptr 0 1 0 0 ∧ gt s.sl 8 = vTerms l ∧ gt s.sl 9 = V.i l.length ∧ gt s.sl 10 = V.i i ∧ s.hp = [.mem false [] [l[i].cells]]) (by simp [h1, h4, h5, h8, h9, h10, vTerms, Term.cells, hil]) ?_
        rintro ⟨sl, hp, bs⟩ ⟨h1, h4, h5, h7, h8, h9, h10, rfl⟩
        refine vc_cut (fun s => gt s.sl 1 = V.i vars ∧ gt s.sl 4 = .bool (badVarB vars (l.take (i + 1))) ∧ gt s.sl 5 = .bool (badCoefB (l.take i)) ∧ gt s.sl 7 = .ptr 0 1 0 0 ∧ gt s.sl 8 = vTerms l ∧ gt s.sl 9 = V.i l.length ∧ gt s.sl 10 = V.i i ∧ s.hp = [.mem false [] [l[i].cells]]) ?_ ?_
        · rw [e1]
          simp [h1, h4, h5, h7, h8, h9, h10, vTerms, Term.cells]
          cases badVarB vars (l.take i) <;> simp
          by_cases hx : l[i].x < 0 <;> simp [hx] <;> omega
        rintro ⟨sl, hp, bs⟩ ⟨h1, h4, h5, h7, h8, h9, h10, rfl⟩
        rw [e2]
        simp [h1, h4, h5, h7, h8, h9, h10, vTerms, Term.cells]
        cases badCoefB (l.take i) <;> simp
        by_cases hx : l[i].c = 0 <;> simp [hx]
        refine (within_spec l[i].c 1000000 (by decide) (by decide)).use ?_
        simp
      · rintro ⟨sl, hp, bs⟩ ⟨h1, h4, h5, h8, h9, h10, rfl⟩
        simp [h1, h4, h5, h8, h9, h10, hw, vTerms, g10]
        exact ⟨⟨i + 1, by omega, rfl, rfl, by omega⟩, by omega⟩
    · obtain rfl : i = l.length := by omega
      simp [model_terms.b0, h1, h4, h5, h8, h9, h10]

theorem wide1_spec (r : List Int) (c : Con) : Pf Try.prog model_wide_1.id [vInts r, .ref c.cells 0] (.bool (decide (r.length ≠ c.xs.length))) := by
  refine DC.of model_wide_1.ok (by simp) ?_
  simp [model_wide_1.ir, model_wide_1.rs, vInts, Con.cells, vTerms, vIntss]
  by_cases h : r.length = c.xs.length <;> simp [h]
  omega

theorem byteArray_ext {s t : ByteArray} (h : s.toList = t.toList) : s = t := by
  have hs : ∀ a : ByteArray, a.toList = a.data.toList := fun a => ByteArray.toList_eq a
  rw [hs, hs] at h
  exact ByteArray.ext (Array.ext' h)

theorem variable1_spec (w v : Var) : Pf Try.prog model_variable_1.id [.agg w.cells, .ref v.cells 0] (.bool (decide (w.name = v.name))) := by
  refine DC.of model_variable_1.ok (by simp) ?_
  simp [model_variable_1.ir, model_variable_1.rs, Var.cells]
  by_cases h : w.name = v.name <;> simp [h]
  exact fun h' => h (byteArray_ext h')

end Go.Abs.G

namespace Go.Abs.G
open Go.Proofs
set_option linter.unusedVariables false

theorem wide_spec (c : Con) (n : Needs) (f : FuncId) (hr : c.rows.length ≤ maxLen) : Pf Try.prog model_wide.id [.agg c.cells, .agg (n.cells f)] (.bool (wideB c n)) := by
  refine DC.of model_wide.ok (by simp) ?_
  simp [model_wide.ir, model_wide.rs, wideB, Con.cells, vTerms, vInts, vIntss, Needs.cells]
  by_cases hx : 8 < c.xs.length
  · have hx' : (8 : Int) < c.xs.length := by omega
    cases n.rows <;> simp [hx, hx', Int.not_le.2 hx']
  · have hx' : ¬ (8 : Int) < c.xs.length := by omega
    have hx2 : (c.xs.length : Int) ≤ 8 := by omega
    cases n.rows <;> simp [hx, hx', hx2]
    refine (counts_spec true c.rows.length).use ?_
    simp
    cases hb : countsB true c.rows.length <;> simp
    refine DP.mono (contains_ints_spec (p := fun r => decide (r.length ≠ c.xs.length)) (cap := [.ref c.cells 0]) (by simp) (by simp) (fun t _ => wide1_spec t c) hr) fun r hr => ?_
    subst hr
    simp

theorem fieldB_eq (c : Con) (n : Needs) : fieldB c n = (decide (¬ ((if n.op then 0 else c.op) = 0 ∧ (if n.k then 0 else c.k) = 0 ∧ (if n.v then 0 else c.v) = 0 ∧ (if n.x then 0 else c.x) = 0 ∧ (if n.y then 0 else c.y) = 0)) || (!n.terms && decide (0 < c.terms.length)) || (!n.xs && decide (0 < c.xs.length)) || (!n.table && decide (0 < c.table.length)) || (!n.rows && decide (0 < c.rows.length))) := by
  have key : ((!n.op && decide (c.op ≠ 0)) || (!n.k && decide (c.k ≠ 0)) || (!n.v && decide (c.v ≠ 0)) || (!n.x && decide (c.x ≠ 0)) || (!n.y && decide (c.y ≠ 0))) = decide (¬ ((if n.op then 0 else c.op) = 0 ∧ (if n.k then 0 else c.k) = 0 ∧ (if n.v then 0 else c.v) = 0 ∧ (if n.x then 0 else c.x) = 0 ∧ (if n.y then 0 else c.y) = 0)) := by
    cases n.op <;> cases n.k <;> cases n.v <;> cases n.x <;> cases n.y <;> rw [Bool.eq_iff_iff] <;> simp <;> omega
  unfold fieldB
  rw [key]

theorem field_spec (c : Con) (n : Needs) (f : FuncId) : Pf Try.prog model_field.id [.agg c.cells, .agg (n.cells f)] (.bool (fieldB c n)) := by
  refine DC.of model_field.ok (by simp) ?_
  unfold model_field.ir
  have hc : (V.agg c.cells).sized [] 10 := by simp [Con.cells, vTerms, vInts, vIntss]
  refine vc_cut (fun s => gt s.sl 2 = .ptr 0 1 0 0 ∧ gt s.sl 3 = .ptr 1 1 0 0 ∧ s.hp = [.mem false [] [c.cells], .mem false [] [n.cells f]]) (by simp [Con.cells, vTerms, vInts, vIntss, Needs.cells]) ?_
  rintro ⟨sl, hp, bs⟩ ⟨h2, h3, rfl⟩
  refine vc_cut (fun s => gt s.sl 2 = .ptr 0 1 0 0 ∧ gt s.sl 3 = .ptr 1 1 0 0 ∧ gt s.sl 5 = .ptr 2 1 0 0 ∧ s.hp = [.mem false [] [c.cells], .mem false [] [n.cells f], .mem false [] [[V.i c.op, V.i c.k, V.i c.v, V.i c.x, V.i c.y]]]) (by simp [h2, h3, Con.cells, vTerms, vInts, vIntss, Needs.cells]) ?_
  rintro ⟨sl, hp, bs⟩ ⟨h2, h3, h5, rfl⟩
  have key : ∀ (o k v x y : Int), o = (if n.op then 0 else c.op) → True := fun _ _ _ _ _ _ => trivial
  refine vc_cut (fun s => gt s.sl 2 = .ptr 0 1 0 0 ∧ gt s.sl 3 = .ptr 1 1 0 0 ∧ gt s.sl 5 = .ptr 2 1 0 0 ∧ s.hp = [.mem false [] [c.cells], .mem false [] [n.cells f], .mem false [] [[V.i (if n.op then 0 else c.op), V.i c.k, V.i c.v, V.i c.x, V.i c.y]]]) (by cases hb : n.op <;> simp [h2, h3, h5, Con.cells, vTerms, vInts, vIntss, Needs.cells, hb]) ?_
  rintro ⟨sl, hp, bs⟩ ⟨h2, h3, h5, rfl⟩
  refine vc_cut (fun s => gt s.sl 2 = .ptr 0 1 0 0 ∧ gt s.sl 3 = .ptr 1 1 0 0 ∧ gt s.sl 5 = .ptr 2 1 0 0 ∧ s.hp = [.mem false [] [c.cells], .mem false [] [n.cells f], .mem false [] [[V.i (if n.op then 0 else c.op), V.i c.k, V.i (if n.v then 0 else c.v), V.i c.x, V.i c.y]]]) (by cases hb : n.v <;> simp [h2, h3, h5, Con.cells, vTerms, vInts, vIntss, Needs.cells, hb]) ?_
  rintro ⟨sl, hp, bs⟩ ⟨h2, h3, h5, rfl⟩
  refine vc_cut (fun s => gt s.sl 2 = .ptr 0 1 0 0 ∧ gt s.sl 3 = .ptr 1 1 0 0 ∧ gt s.sl 5 = .ptr 2 1 0 0 ∧ s.hp = [.mem false [] [c.cells], .mem false [] [n.cells f], .mem false [] [[V.i (if n.op then 0 else c.op), V.i (if n.k then 0 else c.k), V.i (if n.v then 0 else c.v), V.i c.x, V.i c.y]]]) (by cases hb : n.k <;> simp [h2, h3, h5, Con.cells, vTerms, vInts, vIntss, Needs.cells, hb]) ?_
  rintro ⟨sl, hp, bs⟩ ⟨h2, h3, h5, rfl⟩
  refine vc_cut (fun s => gt s.sl 2 = .ptr 0 1 0 0 ∧ gt s.sl 3 = .ptr 1 1 0 0 ∧ gt s.sl 5 = .ptr 2 1 0 0 ∧ s.hp = [.mem false [] [c.cells], .mem false [] [n.cells f], .mem false [] [[V.i (if n.op then 0 else c.op), V.i (if n.k then 0 else c.k), V.i (if n.v then 0 else c.v), V.i (if n.x then 0 else c.x), V.i c.y]]]) (by cases hb : n.x <;> simp [h2, h3, h5, Con.cells, vTerms, vInts, vIntss, Needs.cells, hb]) ?_
  rintro ⟨sl, hp, bs⟩ ⟨h2, h3, h5, rfl⟩
  refine vc_cut (fun s => gt s.sl 2 = .ptr 0 1 0 0 ∧ gt s.sl 3 = .ptr 1 1 0 0 ∧ gt s.sl 5 = .ptr 2 1 0 0 ∧ s.hp = [.mem false [] [c.cells], .mem false [] [n.cells f], .mem false [] [[V.i (if n.op then 0 else c.op), V.i (if n.k then 0 else c.k), V.i (if n.v then 0 else c.v), V.i (if n.x then 0 else c.x), V.i (if n.y then 0 else c.y)]]]) (by cases hb : n.y <;> simp [h2, h3, h5, Con.cells, vTerms, vInts, vIntss, Needs.cells, hb]) ?_
  rintro ⟨sl, hp, bs⟩ ⟨h2, h3, h5, rfl⟩
  have hf := fieldB_eq c n
  rw [hf]
  generalize (if n.op then 0 else c.op) = o
  generalize (if n.k then 0 else c.k) = k
  generalize (if n.v then 0 else c.v) = v
  generalize (if n.x then 0 else c.x) = x
  generalize (if n.y then 0 else c.y) = y
  generalize hb0 : decide (¬ (o = 0 ∧ k = 0 ∧ v = 0 ∧ x = 0 ∧ y = 0)) = b0
  refine vc_cut (fun s => gt s.sl 4 = .bool (b0 || (!n.terms && decide (0 < c.terms.length)) || (!n.xs && decide (0 < c.xs.length)) || (!n.table && decide (0 < c.table.length)) || (!n.rows && decide (0 < c.rows.length)))) (vc_reg_of ?_) ?_
  · have e : ∀ b0 b : Bool, (b0 || b) = if b0 then true else b := fun b0 b => by cases b0 <;> rfl
    refine vcIts_cut 4 (fun s => gt s.sl 2 = .ptr 0 1 0 0 ∧ gt s.sl 3 = .ptr 1 1 0 0 ∧ gt s.sl 35 = .bool b0 ∧ s.hp = [.mem false [] [c.cells], .mem false [] [n.cells f], .mem false [] [[V.i o, V.i k, V.i v, V.i x, V.i y]]]) ?_ ?_
    · simp [h2, h3, h5, ← hb0]
      rfl
    rintro ⟨sl, hp, bs⟩ ⟨h2, h3, h4, rfl⟩
    refine vcIts_cut 11 (fun s => gt s.sl 2 = .ptr 0 1 0 0 ∧ gt s.sl 3 = .ptr 1 1 0 0 ∧ gt s.sl 46 = .bool (b0 || (!n.terms && decide (0 < c.terms.length))) ∧ s.hp = [.mem false [] [c.cells], .mem false [] [n.cells f], .mem false [] [[V.i o, V.i k, V.i v, V.i x, V.i y]]]) ?_ ?_
    · cases b0 <;> cases hn : n.terms <;> simp [h2, h3, h4, hn, Con.cells, vTerms, vInts, vIntss, Needs.cells]
    generalize (b0 || (!n.terms && decide (0 < c.terms.length))) = b1
    rintro ⟨sl, hp, bs⟩ ⟨h2, h3, h4, rfl⟩
    refine vcIts_cut 11 (fun s => gt s.sl 2 = .ptr 0 1 0 0 ∧ gt s.sl 3 = .ptr 1 1 0 0 ∧ gt s.sl 57 = .bool (b1 || (!n.xs && decide (0 < c.xs.length))) ∧ s.hp = [.mem false [] [c.cells], .mem false [] [n.cells f], .mem false [] [[V.i o, V.i k, V.i v, V.i x, V.i y]]]) ?_ ?_
    · cases b1 <;> cases hn : n.xs <;> simp [h2, h3, h4, hn, Con.cells, vTerms, vInts, vIntss, Needs.cells]
    generalize (b1 || (!n.xs && decide (0 < c.xs.length))) = b2
    rintro ⟨sl, hp, bs⟩ ⟨h2, h3, h4, rfl⟩
    refine vcIts_cut 11 (fun s => gt s.sl 2 = .ptr 0 1 0 0 ∧ gt s.sl 3 = .ptr 1 1 0 0 ∧ gt s.sl 68 = .bool (b2 || (!n.table && decide (0 < c.table.length))) ∧ s.hp = [.mem false [] [c.cells], .mem false [] [n.cells f], .mem false [] [[V.i o, V.i k, V.i v, V.i x, V.i y]]]) ?_ ?_
    · cases b2 <;> cases hn : n.table <;> simp [h2, h3, h4, hn, Con.cells, vTerms, vInts, vIntss, Needs.cells]
    generalize (b2 || (!n.table && decide (0 < c.table.length))) = b3
    rintro ⟨sl, hp, bs⟩ ⟨h2, h3, h4, rfl⟩
    cases b3 <;> cases hn : n.rows <;> simp [h2, h3, h4, hn, Con.cells, vTerms, vInts, vIntss, Needs.cells]
  · rintro ⟨sl, hp, bs⟩ h4
    simp [h4, model_field.rs]
end Go.Abs.G

namespace Go.Abs.G
open Go.Proofs
set_option linter.unusedVariables false

def kindTab : List (Int × Needs × FuncId) := [
  (1, ⟨true, false, false, false, false, false, true, true, false⟩, model_lin.id),
  (2, ⟨false, false, false, false, true, true, true, false, false⟩, model_kinds_1.id),
  (3, ⟨false, true, false, false, false, false, false, false, false⟩, model_allDiff.id),
  (4, ⟨false, false, true, false, true, true, false, false, false⟩, model_element.id),
  (5, ⟨false, true, false, false, false, true, false, false, false⟩, model_kinds_2.id),
  (6, ⟨false, true, false, false, false, true, false, false, false⟩, model_kinds_3.id),
  (7, ⟨true, false, false, false, true, false, true, false, false⟩, model_reif.id),
  (8, ⟨false, true, false, true, false, false, false, false, false⟩, model_table.id),
  (9, ⟨false, true, false, false, false, false, true, true, true⟩, model_count.id)]
def kindEnts : List (V × V) := kindTab.map fun e => (V.i e.1, .agg (e.2.1.cells e.2.2))
def kindsV : V := .mview kindEnts

theorem kindEnts_key : ∀ e ∈ kindEnts, e.1.isKey .i64 = true := by
  intro e he
  obtain ⟨t, _, rfl⟩ := List.mem_map.1 he
  rfl

theorem kindEnts_get (k : Int) : (needs k = none ∧ getE kindEnts k = none) ∨ ∃ n f, needs k = some n ∧ (k, n, f) ∈ kindTab ∧ getE kindEnts k = some (.agg (n.cells f)) := by
  by_cases h1 : k = 1
  · subst h1; exact .inr ⟨_, _, rfl, by simp [kindTab], rfl⟩
  by_cases h2 : k = 2
  · subst h2; exact .inr ⟨_, _, rfl, by simp [kindTab], rfl⟩
  by_cases h3 : k = 3
  · subst h3; exact .inr ⟨_, _, rfl, by simp [kindTab], rfl⟩
  by_cases h4 : k = 4
  · subst h4; exact .inr ⟨_, _, rfl, by simp [kindTab], rfl⟩
  by_cases h5 : k = 5
  · subst h5; exact .inr ⟨_, _, rfl, by simp [kindTab], rfl⟩
  by_cases h6 : k = 6
  · subst h6; exact .inr ⟨_, _, rfl, by simp [kindTab], rfl⟩
  by_cases h7 : k = 7
  · subst h7; exact .inr ⟨_, _, rfl, by simp [kindTab], rfl⟩
  by_cases h8 : k = 8
  · subst h8; exact .inr ⟨_, _, rfl, by simp [kindTab], rfl⟩
  by_cases h9 : k = 9
  · subst h9; exact .inr ⟨_, _, rfl, by simp [kindTab], rfl⟩
  · refine .inl ⟨by simp [needs, *], ?_⟩
    simp [kindEnts, kindTab, getE]
    omega

theorem kinds_spec : Pf Try.prog model_kinds.id [] kindsV := by
  refine DC.of model_kinds.ok (by simp) ?_
  simp [model_kinds.ir, model_kinds.rs, kindsV, kindEnts, kindTab, Needs.cells, V.isKey]

theorem con1_spec (x vars : Int) : Pf Try.prog model_con_1.id [V.i x, .ref [V.i vars] 0] (.bool (noB vars x)) := by
  refine DC.of model_con_1.ok (by simp) ?_
  by_cases h : x < 0 <;> simp [model_con_1.ir, model_con_1.rs, noB, h]

def zeroNeeds : List V := [.bool false, .bool false, .bool false, .bool false, .bool false, .bool false, .bool false, .bool false, .bool false, .a .nilFunc]

theorem con_look (c : Con) (vars : Int) : vc Try.prog (.reg 1 [.o 1 (.lt (some 12) (.fad (.tmp 2) 0)),
    .o 2 (.lt (some 13) (.ld false 1 (.tmp 12))),
    .o 0 (.call (some 11) model_kinds.id []),
    .o 3 (.lt (some 14) (.lkp true .i64 (.agg [.a (.bool false), .a (.bool false), .a (.bool false), .a (.bool false), .a (.bool false), .a (.bool false), .a (.bool false), .a (.bool false), .a (.bool false), .a (.nilFunc)]) (.tmp 11) (.tmp 13))),
    .o 4 (.lt (some 10) (.mov (.tmp 14))),
    .o 5 (.lt (some 15) (.ext (.tmp 10) 0)),
    .o 6 (.lt (some 16) (.ext (.tmp 10) 1)),
    .o 7 (.alloc (some 5) 0 10 [.a (.bool false), .a (.bool false), .a (.bool false), .a (.bool false), .a (.bool false), .a (.bool false), .a (.bool false), .a (.bool false), .a (.bool false), .a (.nilFunc)]),
    .o 8 (.store [] 10 (.tmp 5) (.tmp 15)),
    .o 9 (.lt (some 6) (.mov (.tmp 16))),
    .g (.keep [2, 3, 5, 6])]) (fun e s => match e with
      | .norm => gt s.sl 2 = .ptr 0 1 0 0 ∧ gt s.sl 3 = .ptr 1 1 0 0 ∧ gt s.sl 5 = .ptr 2 1 0 0 ∧ ((needs c.kind = none ∧ gt s.sl 6 = .bool false ∧ s.hp = [.mem false [] [c.cells], .mem false [] [[V.i vars]], .mem false [] [zeroNeeds]]) ∨
          ∃ n f, needs c.kind = some n ∧ gt s.sl 6 = .bool true ∧ s.hp = [.mem false [] [c.cells], .mem false [] [[V.i vars]], .mem false [] [n.cells f]])
      | _ => False) ⟨up (up e0 3 (.ptr 1 1 0 0)) 2 (.ptr 0 1 0 0), [.mem false [] [c.cells], .mem false [] [[V.i vars]]], 0⟩ := by
  simp [Con.cells, vTerms, vInts, vIntss]
  refine kinds_spec.use ?_
  have hk := kindEnts_key
  rcases kindEnts_get c.kind with ⟨h1, h2⟩ | ⟨n, f, h1, h2, h3⟩
  · simp [kindsV, h1, h2, zeroNeeds]
    exact ⟨fun a b h => hk _ h, rfl⟩
  · simp [kindsV, h1, h3, Needs.cells]
    exact ⟨fun a b h => hk _ h, rfl⟩

def conSt (c : Con) (vars : Int) (n : Needs) (f : FuncId) (s : St) : Prop :=
  gt s.sl 2 = .ptr 0 1 0 0 ∧ gt s.sl 3 = .ptr 1 1 0 0 ∧ gt s.sl 5 = .ptr 2 1 0 0 ∧ s.hp = [.mem false [] [c.cells], .mem false [] [[V.i vars]], .mem false [] [n.cells f]]

def conSt2 (c : Con) (vars : Int) (n : Needs) (f : FuncId) (s : St) : Prop :=
  gt s.sl 2 = .ptr 0 1 0 0 ∧ gt s.sl 5 = .ptr 2 1 0 0 ∧ gt s.sl 7 = .bool (badVarB vars c.terms) ∧ gt s.sl 8 = .bool (badCoefB c.terms) ∧ gt s.sl 9 = .fn (.func model_con_1.id) [] [.ptr 1 1 0 0] ∧
    s.hp = [.mem false [] [c.cells], .mem false [] [[V.i vars]], .mem false [] [n.cells f]]

theorem con_spec (c : Con) (vars : Int) (hc : okCon c) : Pf Try.prog model_con.id [.agg c.cells, V.i vars] (V.i (conB c vars)) := by
  have hm : (maxLen : Int) ≤ 9223372036854775807 := by decide
  obtain ⟨_, _, ⟨k3, _⟩, _, _, _, _, ⟨k8, k8'⟩, ⟨k9, k9'⟩, k10, k11⟩ := hc
  refine DC.of model_con.ok (by simp) ?_
  unfold model_con.ir
  refine vc_cut (fun s => s = ⟨up (up e0 3 (.ptr 1 1 0 0)) 2 (.ptr 0 1 0 0), [.mem false [] [c.cells], .mem false [] [[V.i vars]]], 0⟩) (by simp [Con.cells, vTerms, vInts, vIntss]) ?_
  rintro _ rfl
  refine vc_cut _ (vc_mono (fun e s hs => by cases e <;> first | exact hs | exact hs.elim) (con_look c vars)) ?_
  rintro ⟨sl, hp, bs⟩ ⟨h2, h3, h5, ⟨hn, h6, rfl⟩ | ⟨n, f, hn, h6, rfl⟩⟩
  · simp [h2, h3, h5, h6, hn, conB, model_con.rs]
  have hcB : conB c vars = conN c vars n := by simp [conB, hn]
  rw [hcB]
  -- the operator
  refine vc_cut (fun s => conSt c vars n f s ∧ (n.op && (decide (c.op < 1) || decide (3 < c.op))) = false) ?_ ?_
  · cases ho : n.op
    · simp [h2, h3, h5, h6, conSt, Needs.cells, ho, Con.cells, vTerms, vInts, vIntss]
    · by_cases h1 : c.op < 1
      · simp [h2, h3, h5, h6, conSt, Needs.cells, ho, Con.cells, vTerms, vInts, vIntss, h1, conN, model_con.rs]
      · by_cases h1' : 3 < c.op <;> simp [h2, h3, h5, h6, conSt, Needs.cells, ho, Con.cells, vTerms, vInts, vIntss, h1, h1', conN, model_con.rs] <;> omega
  rintro ⟨sl, hp, bs⟩ ⟨⟨h2, h3, h5, rfl⟩, b1⟩
  refine vc_cut (fun s => conSt c vars n f s ∧ gt s.sl 7 = .bool (badVarB vars c.terms) ∧ gt s.sl 8 = .bool (badCoefB c.terms)) ?_ ?_
  · simp [h2, h3, h5, Con.cells, vTerms, vInts, vIntss]
    refine (terms_spec c.terms vars k3).use ?_
    simp [conSt, Con.cells, vTerms, vInts, vIntss]
  rintro ⟨sl, hp, bs⟩ ⟨⟨h2, h3, h5, rfl⟩, h7, h8⟩
  refine vc_cut (fun s => conSt2 c vars n f s) ?_ ?_
  · simp [h2, h3, h5, h7, h8, conSt2]
  rintro ⟨sl, hp, bs⟩ ⟨h2, h5, h7, h8, h9, rfl⟩
  refine vc_cut (fun s => conN c vars n = 0) (vc_block_of ?_) ?_
  · refine vc_cut (fun s => conSt2 c vars n f s ∧ gt s.sl 41 = .bool (fieldB c n)) ?_ ?_
    · simp [h2, h5, Needs.cells, Con.cells, vTerms, vInts, vIntss]
      refine (field_spec c n f).use ?_
      simp [h2, h5, h7, h8, h9, conSt2, Needs.cells, Con.cells, vTerms, vInts, vIntss]
    rintro ⟨sl, hp, bs⟩ ⟨⟨h2, h5, h7, h8, h9, rfl⟩, h41⟩
    cases b2 : fieldB c n
    case true => simp [h41, b2, model_con.rs, conN, b1]
    rw [b2] at h41
    rw [vc_cond_false (show St.ev _ (.tmp 41) = _ from h41)]
    refine vc_cut (fun s => conSt2 c vars n f s ∧ gt s.sl 45 = .bool (!countsB n.terms c.terms.length || !countsB n.xs c.xs.length || !countsB n.table c.table.length || wideB c n)) ?_ ?_
    · simp [h2, h5, h7, h8, h9, Needs.cells, Con.cells, vTerms, vInts, vIntss]
      refine (counts_spec n.terms c.terms.length).use ?_
      cases countsB n.terms c.terms.length
      · simp [conSt2, h2, h5, h7, h8, h9, Needs.cells, Con.cells, vTerms, vInts, vIntss]
      simp [h2, h5, h7, h8, h9, Needs.cells, Con.cells, vTerms, vInts, vIntss]
      refine (counts_spec n.xs c.xs.length).use ?_
      cases countsB n.xs c.xs.length
      · simp [conSt2, h2, h5, h7, h8, h9, Needs.cells, Con.cells, vTerms, vInts, vIntss]
      simp [h2, h5, h7, h8, h9, Needs.cells, Con.cells, vTerms, vInts, vIntss]
      refine (counts_spec n.table c.table.length).use ?_
      cases countsB n.table c.table.length
      · simp [conSt2, h2, h5, h7, h8, h9, Needs.cells, Con.cells, vTerms, vInts, vIntss]
      simp [h2, h5, h7, h8, h9, Needs.cells, Con.cells, vTerms, vInts, vIntss]
      refine (wide_spec c n f k10).use ?_
      simp [conSt2, h2, h5, h7, h8, h9, Needs.cells, Con.cells, vTerms, vInts, vIntss]
    rintro ⟨sl, hp, bs⟩ ⟨⟨h2, h5, h7, h8, h9, rfl⟩, h45⟩
    cases b3 : (!countsB n.terms c.terms.length || !countsB n.xs c.xs.length || !countsB n.table c.table.length || wideB c n)
    case true => rw [b3] at h45; simp [h45, model_con.rs, conN, b1, b2, b3]
    rw [b3] at h45
    rw [vc_cond_false (show St.ev _ (.tmp 45) = _ from h45)]
    refine vc_cut (fun s => gt s.sl 2 = .ptr 0 1 0 0 ∧ gt s.sl 8 = .bool (badCoefB c.terms) ∧ s.hp = [.mem false [] [c.cells], .mem false [] [[V.i vars]], .mem false [] [n.cells f]] ∧
      gt s.sl 70 = .bool (badVarB vars c.terms || (n.x && noB vars c.x) || (n.y && noB vars c.y) || c.xs.any (noB vars))) ?_ ?_
    · cases b0 : badVarB vars c.terms
      case true => rw [b0] at h7; simp [h2, h5, h7, h8, h9, Needs.cells, Con.cells, vTerms, vInts, vIntss]
      rw [b0] at h7
      have last : DP Try.prog slices_ContainsFunc_Lint_int.id [vInts c.xs, .fn (.func model_con_1.id) [] [.ref [V.i vars] 0]] fun r => r = .bool (c.xs.any (noB vars)) :=
        contains_int_spec (p := noB vars) (cap := [.ref [V.i vars] 0]) (by simp) (by simp) (fun t _ => con1_spec t vars) k8
      have last' : ∀ Q : V → Prop, Q (.bool (c.xs.any (noB vars))) → DP Try.prog slices_ContainsFunc_Lint_int.id [.view 1 (List.map (fun n => [V.i n]) c.xs), .fn (.func model_con_1.id) [] [.ref [V.i vars] 0]] Q := fun Q hq => DP.mono last fun r hr => by rw [hr]; exact hq
      have mid : ∀ b : Bool, (n.y && noB vars c.y) = b → True := fun _ _ => trivial
      cases hx : n.x <;> cases hy : n.y <;> simp [h2, h5, h7, h8, h9, Needs.cells, Con.cells, vTerms, vInts, vIntss, hx, hy]
      · exact last' _ (by simp)
      · refine (con1_spec c.y vars).use ?_
        cases noB vars c.y <;> simp
        exact last' _ (by simp)
      · refine (con1_spec c.x vars).use ?_
        cases noB vars c.x <;> simp
        exact last' _ (by simp)
      · refine (con1_spec c.x vars).use ?_
        cases noB vars c.x <;> simp
        refine (con1_spec c.y vars).use ?_
        cases noB vars c.y <;> simp
        exact last' _ (by simp)
    rintro ⟨sl, hp, bs⟩ ⟨h2, h8, rfl, h70⟩
    cases b4 : (badVarB vars c.terms || (n.x && noB vars c.x) || (n.y && noB vars c.y) || c.xs.any (noB vars))
    case true => rw [b4] at h70; simp [h70, model_con.rs, conN, b1, b2, b3, b4]
    rw [b4] at h70
    rw [vc_cond_false (show St.ev _ (.tmp 70) = _ from h70)]
    refine vc_cut (fun s => gt s.sl 2 = .ptr 0 1 0 0 ∧ gt s.sl 92 = .bool (badCoefB c.terms) ∧ s.hp = [.mem false [] [c.cells], .mem false [] [[V.i vars]], .mem false [] [n.cells f]]) (by simp [h2, h8]) ?_
    rintro ⟨sl, hp, bs⟩ ⟨h2, h92, rfl⟩
    cases b5 : badCoefB c.terms
    case true => simp [h92, model_con.rs, conN, b1, b2, b3, b4, b5]
    rw [b5] at h92
    rw [vc_cond_false (show St.ev _ (.tmp 92) = _ from h92)]
    refine vc_cut (fun s => gt s.sl 94 = .bool (!withinB c.k 1000000000 || !withinB c.v 1000000000 || greatB c.table || c.rows.any greatB)) ?_ ?_
    · simp [h2, Needs.cells, Con.cells, vTerms, vInts, vIntss]
      refine (within_spec c.k 1000000000 (by decide) (by decide)).use ?_
      cases withinB c.k 1000000000
      · simp
      simp [h2, Needs.cells, Con.cells, vTerms, vInts, vIntss]
      refine (within_spec c.v 1000000000 (by decide) (by decide)).use ?_
      cases withinB c.v 1000000000
      · simp
      simp [h2, Needs.cells, Con.cells, vTerms, vInts, vIntss]
      refine (great_spec c.table k9).use ?_
      cases greatB c.table
      case true => simp
      simp [h2, Needs.cells, Con.cells, vTerms, vInts, vIntss]
      refine (contains_ints_spec (by simp) (by simp) (fun t ht => great_spec t (k11 t ht).1) k10).use ?_
      simp
    rintro ⟨sl, hp, bs⟩ h94
    cases b6 : (!withinB c.k 1000000000 || !withinB c.v 1000000000 || greatB c.table || c.rows.any greatB)
    case true => rw [b6] at h94; simp [h94, model_con.rs, conN, b1, b2, b3, b4, b5, b6]
    rw [b6] at h94
    simp [h94, conN, b1, b2, b3, b4, b5, b6]
  · rintro ⟨sl, hp, bs⟩ h0
    simp [h0, model_con.rs]
end Go.Abs.G

namespace Go.Abs.G
open Go.Proofs
set_option linter.unusedVariables false

theorem width_pos (s : ByteArray) (pos : Nat) : 1 ≤ (Utf8.decode s pos).2 := by
  unfold Utf8.decode
  simp only
  repeat' split
  all_goals simp

theorem nameFrom_step (s : ByteArray) (f pos : Nat) (h : pos < s.size) : nameFrom s (f + 1) pos = if !letterB (Utf8.decode s pos).1 && (decide (pos = 0) || decide ((Utf8.decode s pos).1 < 48) || decide (57 < (Utf8.decode s pos).1)) then false else nameFrom s f (pos + (Utf8.decode s pos).2) := by
  rw [nameFrom, if_pos h]

theorem nameFrom_end (s : ByteArray) (f pos : Nat) (h : ¬ pos < s.size) : nameFrom s f pos = true := by
  cases f with
  | zero => rfl
  | succ f => rw [nameFrom, if_neg h]

def sitLeft : Heap → Nat
  | [.sit s pos] => s.size - pos
  | _ => 0
attribute [simp] sitLeft

theorem name_spec (s : ByteArray) (hs : s.size ≤ maxLen) : Pf Try.prog model_isName.id [.str s] (.bool (nameB s)) := by
  have hm : (maxLen : Int) ≤ 9223372036854775807 := by decide
  refine DC.of model_isName.ok (by simp) ?_
  simp [model_isName.ir, model_isName.rs]
  refine WI.mono (Q := fun e st => (e = .exit 0 ∧ gt st.sl 0 = .str s ∧ nameFrom s (s.size + 1) 0 = true) ∨ (e = .ret ∧ gt st.sl 2 = .bool false ∧ nameFrom s (s.size + 1) 0 = false)) (WI.loop 1 (by simp) (fun st => ∃ pos f, gt st.sl 0 = .str s ∧ gt st.sl 7 = .ptr 0 0 0 0 ∧ st.hp = [.sit s pos] ∧ s.size < f + pos ∧ nameFrom s (s.size + 1) 0 = nameFrom s f pos) (fun st => sitLeft st.hp) ?_ ?_) ?_
  · exact ⟨0, s.size + 1, by simp⟩
  · rintro ⟨sl, hp, bs⟩ ⟨pos, f, h0, h7, rfl, hf, he⟩
    by_cases hp : pos < s.size
    · obtain ⟨f, rfl⟩ : ∃ g, f = g + 1 := ⟨f - 1, by omega⟩
      have hw := width_pos s pos
      rw [nameFrom_step s f pos hp] at he
      have hnm : pos = 0 ∨ 0 < pos := by omega
      generalize hd : Utf8.decode s pos = d at he hw
      obtain ⟨r, wd⟩ := d
      simp only at he hw
      unfold model_isName.b0
      refine vc_cut (fun st => gt st.sl 0 = .str s ∧ gt st.sl 7 = .ptr 0 0 0 0 ∧ gt st.sl 8 = .tup [.bool true, V.i pos, .int .i32 r] ∧ gt st.sl 9 = .bool true ∧ st.hp = [.sit s (pos + wd)]) (by simp [h0, h7, hp, hd]) ?_
      rintro ⟨sl, _, bs⟩ ⟨h0, h7, h8, h9, rfl⟩
      refine vc_cut (fun st => gt st.sl 0 = .str s ∧ gt st.sl 7 = .ptr 0 0 0 0 ∧ gt st.sl 8 = .tup [.bool true, V.i pos, .int .i32 r] ∧ st.hp = [.sit s (pos + wd)]) (by simp [h0, h7, h8, h9]) ?_
      rintro ⟨sl, _, bs⟩ ⟨h0, h7, h8, rfl⟩
      refine vc_block_of (vc_cut (fun st => gt st.sl 0 = .str s ∧ gt st.sl 7 = .ptr 0 0 0 0 ∧ gt st.sl 3 = V.i pos ∧ gt st.sl 4 = .int .i32 r ∧ st.hp = [.sit s (pos + wd)]) (by simp [h0, h7, h8]) ?_)
      rintro ⟨sl, _, bs⟩ ⟨h0, h7, h3, h4, rfl⟩
      refine vc_cut (fun st => gt st.sl 0 = .str s ∧ gt st.sl 7 = .ptr 0 0 0 0 ∧ gt st.sl 3 = V.i pos ∧ gt st.sl 4 = .int .i32 r ∧ gt st.sl 5 = .bool (letterB r) ∧ st.hp = [.sit s (pos + wd)]) ?_ ?_
      · unfold letterB
        have i1 : ((97 : Int) ≤ (r : Int)) = (97 ≤ r) := by apply propext; omega
        have i2 : ((r : Int) ≤ 122) = (r ≤ 122) := by apply propext; omega
        have i3 : ((65 : Int) ≤ (r : Int)) = (65 ≤ r) := by apply propext; omega
        have i4 : ((r : Int) ≤ 90) = (r ≤ 90) := by apply propext; omega
        have i5 : ((r : Int) == 95) = decide (r = 95) := by rw [Bool.eq_iff_iff]; simp; omega
        by_cases a1 : 97 ≤ r <;> by_cases a2 : r ≤ 122 <;> by_cases a3 : 65 ≤ r <;> by_cases a4 : r ≤ 90 <;> first | (exfalso; omega) | simp [h0, h7, h3, h4, i1, i2, i3, i4, i5, a1, a2, a3, a4]
      rintro ⟨sl, _, bs⟩ ⟨h0, h7, h3, h4, h5, rfl⟩
      refine vc_cut (fun st => gt st.sl 0 = .str s ∧ gt st.sl 7 = .ptr 0 0 0 0 ∧ gt st.sl 43 = .bool (!letterB r && (decide (pos = 0) || decide (r < 48) || decide (57 < r))) ∧ st.hp = [.sit s (pos + wd)]) ?_ ?_
      · have i1 : ((r : Int) < 48) = (r < 48) := by apply propext; omega
        have i2 : ((57 : Int) < (r : Int)) = (57 < r) := by apply propext; omega
        have i3 : ((pos : Int) = 0) = (pos = 0) := by apply propext; omega
        cases hl : letterB r <;> rw [hl] at h5 <;> by_cases a1 : pos = 0 <;> by_cases a2 : r < 48 <;> simp [h0, h7, h3, h4, h5, i1, i2, i3, a1, a2]
      rintro ⟨sl, _, bs⟩ ⟨h0, h7, h43, rfl⟩
      cases hb : (!letterB r && (decide (pos = 0) || decide (r < 48) || decide (57 < r)))
      · rw [hb] at h43 he
        simp [h0, h7, h43]
        exact ⟨⟨f, by omega, by simpa using he⟩, by omega⟩
      · rw [hb] at h43 he
        simp [h0, h7, h43]
        simpa using he
    · rw [nameFrom_end s f pos hp] at he
      simp [model_isName.b0, h0, h7, hp, he]
  · rintro e ⟨sl, hp, bs⟩ (⟨rfl, h0, he⟩ | ⟨rfl, h2, he⟩)
    · by_cases h1 : 1 ≤ s.size
      · have h1' : (1 : Int) ≤ s.size := by omega
        simp [h0, nameB, he, h1, h1']
        omega
      · have h1' : ¬ (1 : Int) ≤ s.size := by omega
        simp [h0, nameB, he, h1, h1']
    · simp [h2, nameB, he]

theorem goal_spec (m : Model) (hl : m.goal.length ≤ maxLen) : Pf Try.prog model_goal.id [.agg m.cells] (V.i (goalB m)) := by
  refine DC.of model_goal.ok (by simp) ?_
  simp [model_goal.ir, model_goal.rs, Model.cells, vVars, vCons, vTerms]
  refine (terms_spec m.goal m.vars.length hl).use ?_
  simp
  by_cases h0 : m.goal = []
  · cases hg : m.hasGoal
    · simp [h0, goalB, hg]
      refine (counts_spec false 0).use ?_
      cases countsB false 0 <;> simp
      simp [badVarB, badCoefB]
    · simp [h0, goalB, hg]
      refine (counts_spec true 0).use ?_
      cases hc : countsB true 0 <;> simp
      all_goals (simp [countsB] at hc)
  · have h1 : 0 < m.goal.length := List.length_pos_iff.2 h0
    have h0' : (0 : Int) < m.goal.length := by omega
    cases hg : m.hasGoal
    · simp [h0, goalB, hg]
    · simp [h0, goalB, hg]
      refine (counts_spec true m.goal.length).use ?_
      cases countsB true m.goal.length <;> simp
      cases badVarB m.vars.length m.goal <;> simp

theorem variable_spec (l : List Var) (i : Nat) (h : i < l.length) (hl : l.length ≤ maxLen) (hv : okVar l[i]) : Pf Try.prog model_variable.id [vVars l, V.i i] (V.i (varB l i l[i])) := by
  have hm : (maxLen : Int) ≤ 9223372036854775807 := by decide
  refine DC.of model_variable.ok (by simp) ?_
  unfold model_variable.ir
  refine vc_cut (fun s => gt s.sl 0 = vVars l ∧ gt s.sl 1 = V.i i ∧ s.hp = []) (by simp) ?_
  rintro ⟨sl, hp, bs⟩ ⟨h0, h1, rfl⟩
  refine vc_cut (fun s => gt s.sl 0 = vVars l ∧ gt s.sl 1 = V.i i ∧ gt s.sl 5 = .ptr 0 1 0 0 ∧ s.hp = [.mem false [] [l[i].cells]]) (by simp [h0, h1, vVars, h, Var.cells]) ?_
  rintro ⟨sl, hp, bs⟩ ⟨h0, h1, h5, rfl⟩
  generalize hv' : l[i] = v at *
  obtain ⟨hv1, _, _⟩ := hv
  have hi : (i : Int) ≤ l.length := by omega
  have htk : List.take i (List.map Var.cells l) = List.map Var.cells (l.take i) := List.map_take.symm
  refine vc_cut (fun s => gt s.sl 5 = .ptr 0 1 0 0 ∧ s.hp = [.mem false [] [v.cells]] ∧ nameB v.name = true ∧ ((l.take i).any fun w => decide (w.name = v.name)) = false) ?_ ?_
  · simp [h0, h1, h5, Var.cells]
    refine (name_spec v.name hv1).use ?_
    cases hn : nameB v.name
    · simp [varB, hn, model_variable.rs]
    simp [h0, h1, h5, Var.cells, vVars, hi]
    rw [htk]
    refine DP.mono (contains_var_spec (p := fun w => decide (w.name = v.name)) (cap := [.ref v.cells 0]) (l := l.take i) (by simp) (by simp) (fun t _ => variable1_spec t v) (by simp; omega)) fun r hr => ?_
    subst hr
    cases ha : ((l.take i).any fun w => decide (w.name = v.name))
    · simp [ha, Var.cells]
      simpa using ha
    · simp [varB, hn, ha, model_variable.rs]
  rintro ⟨sl, hp, bs⟩ ⟨h5, rfl, b1, b2⟩
  have hb : varB l i v = if !withinB v.lo 1000000000 || !withinB v.hi 1000000000 || decide (v.hi < v.lo) || decide (64 ≤ v.hi - v.lo) then 42 else 0 := by
    unfold varB; rw [b1, b2]; rfl
  rw [hb]
  refine vc_cut (fun s => (!withinB v.lo 1000000000 || !withinB v.hi 1000000000 || decide (v.hi < v.lo) || decide (64 ≤ v.hi - v.lo)) = false) ?_ ?_
  · simp [h5, Var.cells]
    refine (within_spec v.lo 1000000000 (by decide) (by decide)).use ?_
    cases w1 : withinB v.lo 1000000000
    · simp [model_variable.rs]
    simp [h5, Var.cells]
    refine (within_spec v.hi 1000000000 (by decide) (by decide)).use ?_
    cases w2 : withinB v.hi 1000000000
    · simp [model_variable.rs]
    unfold withinB at w1 w2
    simp at w1 w2
    have hw : IntKind.i64.wrap (v.hi - v.lo) = v.hi - v.lo := by rw [wrap64] <;> omega
    by_cases hlt : v.hi < v.lo
    · simp [hlt, Int.not_le.2 hlt, model_variable.rs, Var.cells]
    · by_cases hge : 64 ≤ v.hi - v.lo <;> simp [hlt, hw, hge, model_variable.rs, Var.cells] <;> omega
  · rintro ⟨sl, hp, bs⟩ hb
    rw [hb]
    simp [model_variable.rs]
end Go.Abs.G

namespace Go.Abs.G
open Go.Proofs
set_option linter.unusedVariables false
set_option linter.unusedSimpArgs false

theorem firstBad_drop {α : Type} (f : Nat → α → Int) {l : List α} {i : Nat} (h : i < l.length) : firstBad f i (l.drop i) = if f i l[i] = 0 then firstBad f (i + 1) (l.drop (i + 1)) else some (i, f i l[i]) := by
  rw [List.drop_eq_getElem_cons h]; rfl

theorem check_spec (m : Model) (hm' : okModel m) : Pf Try.prog model_Check.id [.agg m.cells] (.tup [V.i (checkB m).1, V.i (checkB m).2]) := by
  have hm : (maxLen : Int) ≤ 9223372036854775807 := by decide
  obtain ⟨⟨hv, hv'⟩, ⟨hc, hc'⟩, hg, _⟩ := hm'
  refine DC.of model_Check.ok (by simp) ?_
  unfold model_Check.ir
  refine vc_cut (fun s => gt s.sl 1 = .ptr 0 1 0 0 ∧ s.hp = [.mem false [] [m.cells]]) (by simp [Model.cells, vVars, vCons, vTerms]) ?_
  rintro ⟨sl, hp, bs⟩ ⟨h1, rfl⟩
  refine vc_cut (fun s => gt s.sl 1 = .ptr 0 1 0 0 ∧ s.hp = [.mem false [] [m.cells]] ∧ ¬ (m.vars.length = 0 ∨ 32 < m.vars.length)) ?_ ?_
  · by_cases l0 : m.vars = []
    · simp [h1, Model.cells, vVars, vCons, vTerms, l0, checkB, model_Check.rs]
    · have l0' : ¬ m.vars.length = 0 := by simpa using l0
      have l0'' : ¬ (m.vars.length : Int) = 0 := by omega
      by_cases l1 : 32 < m.vars.length
      · have l1' : (32 : Int) < m.vars.length := by omega
        simp [h1, Model.cells, vVars, vCons, vTerms, l0, l1, l1', checkB, model_Check.rs]
      · have l1' : ¬ (32 : Int) < m.vars.length := by omega
        simp [h1, Model.cells, vVars, vCons, vTerms, l0, l1, l1']
  rintro ⟨sl, hp, bs⟩ ⟨h1, rfl, hn⟩
  refine vc_cut (fun s => gt s.sl 1 = .ptr 0 1 0 0 ∧ s.hp = [.mem false [] [m.cells]] ∧ firstBad (varB m.vars) 0 m.vars = none) ?_ ?_
  · simp [h1, Model.cells, vVars, vCons, vTerms]
    refine WI.mono (Q := fun e s => (e = .exit 0 ∧ gt s.sl 1 = .ptr 0 1 0 0 ∧ s.hp = [.mem false [] [m.cells]] ∧ firstBad (varB m.vars) 0 m.vars = none) ∨ (e = .ret ∧ ∃ (i : Nat) (r : Int), firstBad (varB m.vars) 0 m.vars = some (i, r) ∧ gt s.sl 2 = V.i i ∧ gt s.sl 3 = V.i r)) (WI.loop 1 (by simp) (fun s => ∃ i, i ≤ m.vars.length ∧ gt s.sl 1 = .ptr 0 1 0 0 ∧ gt s.sl 22 = V.i m.vars.length ∧ gt s.sl 23 = V.i i ∧ s.hp = [.mem false [] [m.cells]] ∧ firstBad (varB m.vars) 0 m.vars = firstBad (varB m.vars) i (m.vars.drop i)) (fun s => (m.vars.length - (gt s.sl 23).num).toNat) ?_ ?_) ?_
    · exact ⟨0, by simp [h1, Model.cells, vVars, vCons, vTerms]⟩
    · rintro ⟨sl, hp, bs⟩ ⟨i, hi, h1, h22, h23, rfl, he⟩
      by_cases hil : i < m.vars.length
      · simp [model_Check.b0, h1, h22, h23, hil, Model.cells, vVars, vCons, vTerms]
        refine (variable_spec m.vars i hil hv (hv' _ (List.getElem_mem hil))).use ?_
        rw [firstBad_drop _ hil] at he
        have hw : IntKind.i64.wrap ((i : Int) + 1) = ((i + 1 : Nat) : Int) := by rw [wrap64] <;> omega
        by_cases hb : varB m.vars i m.vars[i] = 0
        · rw [if_pos hb] at he
          simp [hb, hw, Model.cells, vVars, vCons, vTerms]
          exact ⟨⟨i + 1, by omega, by omega, he⟩, by omega⟩
        · rw [if_neg hb] at he
          simp [hb, he]
      · obtain rfl : i = m.vars.length := by omega
        rw [List.drop_length] at he
        simp [model_Check.b0, h1, h22, h23, he, firstBad]
    · rintro e ⟨sl, hp, bs⟩ (⟨rfl, h1, rfl, he⟩ | ⟨rfl, i, r, he, h2, h3⟩)
      · simp [h1, he, Model.cells, vVars, vCons, vTerms]
      · have hC : checkB m = ((i : Int), r) := by unfold checkB; rw [if_neg hn, he]
        simp [h2, h3, hC, model_Check.rs]
  rintro ⟨sl, hp, bs⟩ ⟨h1, rfl, he1⟩
  refine vc_cut (fun s => gt s.sl 1 = .ptr 0 1 0 0 ∧ s.hp = [.mem false [] [m.cells]] ∧ ¬ 64 < m.cons.length) ?_ ?_
  · by_cases l1 : 64 < m.cons.length
    · have l1' : (64 : Int) < m.cons.length := by omega
      have hC : checkB m = ((m.vars.length : Int), 49) := by unfold checkB; rw [if_neg hn, he1]; simp only; rw [if_pos l1]
      simp [h1, Model.cells, vVars, vCons, vTerms, l1', hC, model_Check.rs]
    · have l1' : ¬ (64 : Int) < m.cons.length := by omega
      simp [h1, Model.cells, vVars, vCons, vTerms, l1, l1']
  rintro ⟨sl, hp, bs⟩ ⟨h1, rfl, hn2⟩
  refine vc_cut (fun s => gt s.sl 1 = .ptr 0 1 0 0 ∧ s.hp = [.mem false [] [m.cells]] ∧ firstBad (fun _ c => conB c m.vars.length) 0 m.cons = none) ?_ ?_
  · simp [h1, Model.cells, vVars, vCons, vTerms]
    refine WI.mono (Q := fun e s => (e = .exit 2 ∧ gt s.sl 1 = .ptr 0 1 0 0 ∧ s.hp = [.mem false [] [m.cells]] ∧ firstBad (fun _ c => conB c m.vars.length) 0 m.cons = none) ∨ (e = .ret ∧ ∃ (i : Nat) (r : Int), firstBad (fun _ c => conB c m.vars.length) 0 m.cons = some (i, r) ∧ gt s.sl 2 = V.i (m.vars.length + i) ∧ gt s.sl 3 = V.i r)) (WI.loop 1 (by simp) (fun s => ∃ i, i ≤ m.cons.length ∧ gt s.sl 1 = .ptr 0 1 0 0 ∧ gt s.sl 43 = vCons m.cons ∧ gt s.sl 44 = V.i m.cons.length ∧ gt s.sl 45 = V.i i ∧ s.hp = [.mem false [] [m.cells]] ∧ firstBad (fun _ c => conB c m.vars.length) 0 m.cons = firstBad (fun _ c => conB c m.vars.length) i (m.cons.drop i)) (fun s => (m.cons.length - (gt s.sl 45).num).toNat) ?_ ?_) ?_
    · exact ⟨0, by simp [h1, Model.cells, vVars, vCons, vTerms]⟩
    · rintro ⟨sl, hp, bs⟩ ⟨i, hi, h1, h43, h22, h23, rfl, he⟩
      by_cases hil : i < m.cons.length
      · simp [model_Check.b1, h1, h43, h22, h23, hil, Model.cells, vVars, vCons, vTerms, Con.cells, vInts, vIntss]
        refine (con_spec m.cons[i] m.vars.length (hc' _ (List.getElem_mem hil))).use ?_
        rw [firstBad_drop _ hil] at he
        have hw : IntKind.i64.wrap ((i : Int) + 1) = ((i + 1 : Nat) : Int) := by rw [wrap64] <;> omega
        have hw2 : IntKind.i64.wrap ((m.vars.length : Int) + i) = m.vars.length + i := by rw [wrap64] <;> omega
        by_cases hb : conB m.cons[i] m.vars.length = 0
        · rw [if_pos hb] at he
          simp [hb, hw, Model.cells, vVars, vCons, vTerms]
          exact ⟨⟨i + 1, by omega, by omega, he⟩, by omega⟩
        · rw [if_neg hb] at he
          simp [hb, he, hw2]
      · obtain rfl : i = m.cons.length := by omega
        rw [List.drop_length] at he
        simp [model_Check.b1, h1, h22, h23, he, firstBad]
    · rintro e ⟨sl, hp, bs⟩ (⟨rfl, h1, rfl, he⟩ | ⟨rfl, i, r, he, h2, h3⟩)
      · simp [h1, he, Model.cells, vVars, vCons, vTerms]
      · have hC : checkB m = ((m.vars.length : Int) + i, r) := by unfold checkB; rw [if_neg hn, he1]; simp only; rw [if_neg hn2, he]
        simp [h2, h3, hC, model_Check.rs]
  rintro ⟨sl, hp, bs⟩ ⟨h1, rfl, he2⟩
  simp [h1, Model.cells, vVars, vCons, vTerms]
  refine (goal_spec m hg).use ?_
  have hw2 : IntKind.i64.wrap ((m.vars.length : Int) + m.cons.length) = m.vars.length + m.cons.length := by rw [wrap64] <;> omega
  by_cases hb : goalB m = 0
  · have hC : checkB m = (0, 0) := by unfold checkB; rw [if_neg hn, he1]; simp only; rw [if_neg hn2, he2]; simp [hb]
    simp [hb, hC, model_Check.rs]
  · have hC : checkB m = ((m.vars.length : Int) + m.cons.length, goalB m) := by unfold checkB; rw [if_neg hn, he1]; simp only; rw [if_neg hn2, he2]; simp [hb]
    simp [hb, hC, hw2, model_Check.rs]

theorem right_spec (m : Model) (hm' : okModel m) : Pf Try.prog model_right.id [.agg m.cells] (.bool (rightB m)) := by
  refine DC.of model_right.ok (by simp) ?_
  simp [model_right.ir, model_right.rs, Model.cells, vVars, vCons, vTerms]
  refine (check_spec m hm').use ?_
  simp [rightB]
  rfl

theorem lright_spec (m : Model) (hm' : okModel m) : Pf Try.prog hallmarklaw4_right.id [.agg m.cells] (.bool (rightB m)) := by
  refine DC.of hallmarklaw4_right.ok (by simp) ?_
  simp [hallmarklaw4_right.ir, hallmarklaw4_right.rs, Model.cells, vVars, vCons, vTerms]
  refine (check_spec m hm').use ?_
  simp [rightB]
  rfl

theorem sized_spec (l : List Int) (hl : l.length ≤ maxLen) : Pf Try.prog model_sized.id [vInts l] (.bool (!greatB l)) := by
  refine DC.of model_sized.ok (by simp) ?_
  simp [model_sized.ir, model_sized.rs, vInts]
  exact (great_spec l hl).use (by simp)
end Go.Abs.G

namespace Go.Abs.G
open Go.Proofs
set_option linter.unusedVariables false
set_option linter.unusedSimpArgs false

def sumW (g : Int → Int) (l : List Term) : Int := l.foldl (fun n t => IntKind.i64.wrap (n + IntKind.i64.wrap (t.c * g t.x))) 0

theorem sumW_succ (g : Int → Int) (l : List Term) {i : Nat} (h : i < l.length) : sumW g (l.take (i + 1)) = IntKind.i64.wrap (sumW g (l.take i) + IntKind.i64.wrap (l[i].c * g l[i].x)) := by
  unfold sumW
  rw [List.take_succ_eq_append_getElem h, List.foldl_append]; rfl

theorem sum_spec0 {f : FuncId} {cap : List V} {g : Int → Int} {l : List Term} (hok : okFunc Try.prog f = true) (hids : V.idsL cap = []) (hg : ∀ t ∈ l, DP Try.prog f (V.i t.x :: cap) fun r => r = V.i (g t.x)) (hl : l.length ≤ maxLen) :
    Pf Try.prog model_sum.id [vTerms l, .fn (.func f) [] cap] (V.i (sumW g l)) := by
  have hm : (maxLen : Int) ≤ 9223372036854775807 := by decide
  refine DC.of model_sum.ok (by simp) ?_
  simp [model_sum.ir, model_sum.rs, vTerms]
  refine WI.loop 0 (by simp) (fun s => ∃ i, i ≤ l.length ∧ gt s.sl 1 = .fn (.func f) [] cap ∧ gt s.sl 5 = V.i (sumW g (l.take i)) ∧ gt s.sl 8 = vTerms l ∧ gt s.sl 9 = V.i l.length ∧ gt s.sl 10 = V.i i ∧ s.hp = []) (fun s => (l.length - (gt s.sl 10).num).toNat) ?_ ?_
  · exact ⟨0, by simp [vTerms, sumW]⟩
  · rintro ⟨sl, hp, bs⟩ ⟨i, hi, h1, h5, h8, h9, h10, rfl⟩
    by_cases hil : i < l.length
    · simp [model_sum.b0, h1, h5, h8, h9, h10, vTerms, Term.cells, hil, hok, hids]
      refine DP.mono (hg _ (List.getElem_mem hil)) fun r hr => ?_
      subst hr
      have hw : IntKind.i64.wrap ((i : Int) + 1) = ((i + 1 : Nat) : Int) := by rw [wrap64] <;> omega
      simp [hids, hw]
      exact ⟨⟨i + 1, hil, (sumW_succ g l hil).symm, rfl⟩, by omega⟩
    · obtain rfl : i = l.length := by omega
      simp [model_sum.b0, h1, h5, h8, h9, h10, vTerms, model_sum.rs]

theorem sumW_eq {g : Int → Int} : ∀ (l : List Term) (a : Int), (∀ t ∈ l, -1000000000000000 ≤ t.c * g t.x ∧ t.c * g t.x ≤ 1000000000000000) → -4000000000000000000 + 1000000000000000 * l.length ≤ a → a ≤ 4000000000000000000 - 1000000000000000 * l.length →
    l.foldl (fun n t => IntKind.i64.wrap (n + IntKind.i64.wrap (t.c * g t.x))) a = a + sumI g l := by
  intro l
  induction l with
  | nil => intro a _ _ _; simp [sumI]
  | cons t l ih =>
    intro a h h1 h2
    have h0 := h t (by simp)
    rw [List.length_cons] at h1 h2
    rw [List.foldl_cons, wrap64 (n := t.c * g t.x) (by omega) (by omega), wrap64 (n := a + t.c * g t.x) (by omega) (by omega), ih _ (fun t ht => h t (by simp [ht])) (by omega) (by omega)]
    simp [sumI]; omega

/-- A sum of few terms whose parts aren't great. -/
theorem sum_spec {f : FuncId} {cap : List V} {g : Int → Int} {l : List Term} (hok : okFunc Try.prog f = true) (hids : V.idsL cap = []) (hg : ∀ t ∈ l, DP Try.prog f (V.i t.x :: cap) fun r => r = V.i (g t.x)) (hl : l.length ≤ 64)
    (hb : ∀ t ∈ l, (-1000000 ≤ t.c ∧ t.c ≤ 1000000) ∧ (-1000000000 ≤ g t.x ∧ g t.x ≤ 1000000000)) :
    Pf Try.prog model_sum.id [vTerms l, .fn (.func f) [] cap] (V.i (sumI g l)) := by
  have hm : (64 : Nat) ≤ maxLen := by decide
  have e := sumW_eq (g := g) l 0 (fun t ht => mul_bound (hb t ht).1 (hb t ht).2) (by omega) (by omega)
  rw [Int.zero_add] at e
  have := sum_spec0 hok hids hg (by omega : l.length ≤ maxLen)
  unfold sumW at this
  rw [e] at this
  exact this

theorem worth1_spec (values : List Int) (x : Int) (h0 : 0 ≤ x) (h1 : x < values.length) : Pf Try.prog model_Worth_1.id [V.i x, .ref [vInts values] 0] (V.i (atI values x)) := by
  refine DC.of model_Worth_1.ok (by simp) ?_
  obtain ⟨n, rfl⟩ := Int.eq_ofNat_of_zero_le h0
  have h1' : n < values.length := by omega
  simp [model_Worth_1.ir, model_Worth_1.rs, vInts, h1', atI]

theorem great_at {l : List Int} (h : greatB l = false) {x : Int} (h0 : 0 ≤ x) (h1 : x < l.length) : -1000000000 ≤ atI l x ∧ atI l x ≤ 1000000000 := by
  unfold greatB at h
  rw [List.any_eq_false] at h
  have hi : x.toNat < l.length := by omega
  have hx := h l[x.toNat] (List.getElem_mem hi)
  have e : atI l x = l[x.toNat] := by simp [atI, List.getD, List.getElem?_eq_getElem hi]
  rw [e]
  simp [withinB] at hx
  omega

theorem worth_spec (m : Model) (values : List Int) (hm' : okModel m) (hv : values.length ≤ maxLen) : Pf Try.prog model_Worth.id [.agg m.cells, vInts values] (V.i (worthB m values)) := by
  refine DC.of model_Worth.ok (by simp) ?_
  simp [model_Worth.ir, model_Worth.rs, Model.cells, vVars, vCons, vTerms, vInts]
  refine (right_spec m hm').use ?_
  cases hr : rightB m
  · simp [worthB, hr]
  by_cases hl : values.length = m.vars.length
  · have hl' : (values.length : Int) = m.vars.length := by omega
    simp [hl']
    refine (sized_spec values hv).use ?_
    cases hg : greatB values
    · simp
      have hR := right_iff.1 hr
      have ht := hR.terms
      have hs := sum_spec (f := model_Worth_1.id) (cap := [.ref [vInts values] 0]) (g := atI values) (l := m.goal) (by simp) (by simp)
        (fun t h => worth1_spec values t.x (ht.1 t h).x.1 (by rw [hl]; exact (ht.1 t h).x.2)) ht.2 (fun t h => ⟨⟨(ht.1 t h).c.1, (ht.1 t h).c.2.1⟩, great_at hg (ht.1 t h).x.1 (by rw [hl]; exact (ht.1 t h).x.2)⟩)
      refine DP.mono (show DP Try.prog model_sum.id [.view 2 (m.goal.map Term.cells), .fn (.func model_Worth_1.id) [] [.ref [.view 1 (values.map fun n => [V.i n])] 0]] _ from hs) fun r hr' => ?_
      subst hr'
      simp [worthB, hr, hl, hg]
    · simp [worthB, hr, hl, hg]
  · have hl' : ¬ (values.length : Int) = m.vars.length := by omega
    simp [worthB, hr, hl, hl']
end Go.Abs.G

namespace Go.Abs.G
open Go.Proofs
set_option linter.unusedVariables false
set_option linter.unusedSimpArgs false

theorem endsI_bound {m : Model} (h : Right m) (least : Bool) : ∀ (l : List Term), (∀ t ∈ l, TermOk m.vars.length t) → -(1000000000000000 * l.length : Int) ≤ endsI m least l ∧ endsI m least l ≤ 1000000000000000 * l.length := by
  intro l
  induction l with
  | nil => intro _; simp [endsI]
  | cons t l ih =>
    intro ht
    have h1 := ih fun t h => ht t (by simp [h])
    have h2 := ht t (by simp)
    have h3 := (h.varAt h2.x.1 h2.x.2).2
    have h4 := mul_bound ⟨h2.c.1, h2.c.2.1⟩ h3.lo
    have h5 := mul_bound ⟨h2.c.1, h2.c.2.1⟩ h3.hi
    have h6 : endsI m least (t :: l) = endOf m least t + endsI m least l := by simp [endsI]
    rw [h6, List.length_cons]
    have h7 : -1000000000000000 ≤ endOf m least t ∧ endOf m least t ≤ 1000000000000000 := by
      unfold endOf; split <;> assumption
    omega

theorem endsI_succ (m : Model) (least : Bool) {l : List Term} {i : Nat} (h : i < l.length) : endsI m least (l.take (i + 1)) = endsI m least (l.take i) + endOf m least l[i] := by
  unfold endsI
  rw [List.take_succ_eq_append_getElem h, List.map_append, List.sum_append]; simp

theorem ends_spec (m : Model) (least : Bool) (hm' : okModel m) : Pf Try.prog model_ends.id [.agg m.cells, .bool least] (V.i (endsB m least)) := by
  have hm : (maxLen : Int) ≤ 9223372036854775807 := by decide
  refine DC.of model_ends.ok (by simp) ?_
  unfold model_ends.ir
  refine vc_cut (fun s => gt s.sl 1 = .bool least ∧ gt s.sl 2 = .ptr 0 1 0 0 ∧ s.hp = [.mem false [] [m.cells]]) (by simp [Model.cells, vVars, vCons, vTerms]) ?_
  rintro ⟨sl, hp, bs⟩ ⟨h1, h2, rfl⟩
  refine vc_cut (fun s => gt s.sl 1 = .bool least ∧ gt s.sl 2 = .ptr 0 1 0 0 ∧ s.hp = [.mem false [] [m.cells]] ∧ rightB m = true) ?_ ?_
  · simp [h1, h2, Model.cells, vVars, vCons, vTerms]
    refine (right_spec m hm').use ?_
    cases hr : rightB m
    · simp [endsB, hr, model_ends.rs]
    · simp [h1, h2, Model.cells, vVars, vCons, vTerms]
  rintro ⟨sl, hp, bs⟩ ⟨h1, h2, rfl, hr⟩
  have hR := right_iff.1 hr
  obtain ⟨ht, hl⟩ := hR.terms
  have hB : endsB m least = endsI m least m.goal := by simp [endsB, hr]
  rw [hB]
  simp [h1, h2, Model.cells, vVars, vCons, vTerms]
  refine WI.mono (Q := fun e s => e = .exit 0 ∧ gt s.sl 5 = V.i (endsI m least m.goal)) (WI.loop 1 (by simp) (fun s => ∃ i, i ≤ m.goal.length ∧ gt s.sl 1 = .bool least ∧ gt s.sl 2 = .ptr 0 1 0 0 ∧ gt s.sl 5 = V.i (endsI m least (m.goal.take i)) ∧ gt s.sl 13 = vTerms m.goal ∧ gt s.sl 14 = V.i m.goal.length ∧ gt s.sl 15 = V.i i ∧ s.hp = [.mem false [] [m.cells]]) (fun s => (m.goal.length - (gt s.sl 15).num).toNat) ?_ ?_) ?_
  · exact ⟨0, by simp [h1, h2, Model.cells, vVars, vCons, vTerms, endsI]⟩
  · rintro ⟨sl, hp, bs⟩ ⟨i, hi, h1, h2, h5, h13, h14, h15, rfl⟩
    by_cases hil : i < m.goal.length
    · have hti := ht _ (List.getElem_mem hil)
      obtain ⟨hv1, hv2⟩ := hR.varAt hti.x.1 hti.x.2
      have hs := endsI_succ m least hil
      have hb1 := endsI_bound hR least (m.goal.take i) fun t h => ht t (List.mem_of_mem_take h)
      have hb2 := endsI_bound hR least (m.goal.take (i + 1)) fun t h => ht t (List.mem_of_mem_take h)
      have hw : IntKind.i64.wrap ((i : Int) + 1) = ((i + 1 : Nat) : Int) := by rw [wrap64] <;> omega
      have hlen : (m.goal.take (i + 1)).length ≤ 64 := by simp; omega
      generalize hT : m.goal[i] = t at *
      obtain ⟨n, hn⟩ := Int.eq_ofNat_of_zero_le hti.x.1
      have hxl := hti.x.2
      rw [hn] at hxl
      have hxl' : n < m.vars.length := by omega
      have hva : m.vars[n] = varAt m t.x := by
        rw [hn] at hv1
        simp [List.getElem?_eq_getElem hxl'] at hv1
        rw [hn]; exact hv1
      generalize hvv : varAt m t.x = v at *
      have e1 := mul_bound ⟨hti.c.1, hti.c.2.1⟩ hv2.lo
      have e2 := mul_bound ⟨hti.c.1, hti.c.2.1⟩ hv2.hi
      have g15 := h15
      have hsum : IntKind.i64.wrap (endsI m least (m.goal.take i) + IntKind.i64.wrap (t.c * v.lo)) = endsI m least (m.goal.take i) + t.c * v.lo := by rw [wrap64 (n := t.c * v.lo) (by omega) (by omega), wrap64] <;> simp at hb1 <;> omega
      have hsum2 : IntKind.i64.wrap (endsI m least (m.goal.take i) + IntKind.i64.wrap (t.c * v.hi)) = endsI m least (m.goal.take i) + t.c * v.hi := by rw [wrap64 (n := t.c * v.hi) (by omega) (by omega), wrap64] <;> simp at hb1 <;> omega
      unfold model_ends.b0
      refine vc_cut (fun s => gt s.sl 1 = .bool least ∧ gt s.sl 2 = .ptr 0 1 0 0 ∧ gt s.sl 5 = V.i (endsI m least (m.goal.take i)) ∧ gt s.sl 13 = vTerms m.goal ∧ gt s.sl 14 = V.i m.goal.length ∧ gt s.sl 15 = V.i i ∧ gt s.sl 16 = .bool true ∧ s.hp = [.mem false [] [m.cells]]) (by simp [h1, h2, h5, h13, h14, h15, hil]) ?_
      rintro ⟨sl, hp, bs⟩ ⟨h1, h2, h5, h13, h14, h15, h16, rfl⟩
      refine vc_cut (fun s => gt s.sl 1 = .bool least ∧ gt s.sl 2 = .ptr 0 1 0 0 ∧ gt s.sl 5 = V.i (endsI m least (m.goal.take i)) ∧ gt s.sl 13 = vTerms m.goal ∧ gt s.sl 14 = V.i m.goal.length ∧ gt s.sl 15 = V.i i ∧ s.hp = [.mem false [] [m.cells]]) (by simp [h1, h2, h5, h13, h14, h15, h16]) ?_
      rintro ⟨sl, hp, bs⟩ ⟨h1, h2, h5, h13, h14, h15, rfl⟩
      refine vc_cut (fun s => gt s.sl 1 = .bool least ∧ gt s.sl 2 = .ptr 0 1 0 0 ∧ gt s.sl 5 = V.i (endsI m least (m.goal.take (i + 1))) ∧ gt s.sl 13 = vTerms m.goal ∧ gt s.sl 14 = V.i m.goal.length ∧ gt s.sl 15 = V.i i ∧ s.hp = [.mem false [] [m.cells], .mem false [] [t.cells], .mem false [] [v.cells]]) (vc_block_of ?_) ?_
      · refine vc_cut (fun s => gt s.sl 1 = .bool least ∧ gt s.sl 2 = .ptr 0 1 0 0 ∧ gt s.sl 5 = V.i (endsI m least (m.goal.take i)) ∧ gt s.sl 7 = .ptr 1 1 0 0 ∧ gt s.sl 13 = vTerms m.goal ∧ gt s.sl 14 = V.i m.goal.length ∧ gt s.sl 15 = V.i i ∧ s.hp = [.mem false [] [m.cells], .mem false [] [t.cells]]) (by simp [h1, h2, h5, h13, h14, h15, vTerms, Term.cells, hil, hT]) ?_
        rintro ⟨sl, hp, bs⟩ ⟨h1, h2, h5, h7, h13, h14, h15, rfl⟩
        refine vc_cut (fun s => gt s.sl 1 = .bool least ∧ gt s.sl 2 = .ptr 0 1 0 0 ∧ gt s.sl 5 = V.i (endsI m least (m.goal.take i)) ∧ gt s.sl 7 = .ptr 1 1 0 0 ∧ gt s.sl 8 = .ptr 2 1 0 0 ∧ gt s.sl 13 = vTerms m.goal ∧ gt s.sl 14 = V.i m.goal.length ∧ gt s.sl 15 = V.i i ∧ s.hp = [.mem false [] [m.cells], .mem false [] [t.cells], .mem false [] [v.cells]]) (by simp [h1, h2, h5, h7, h13, h14, h15, vVars, vCons, vTerms, Term.cells, Var.cells, Model.cells, hn, hxl', hva]) ?_
        rintro ⟨sl, hp, bs⟩ ⟨h1, h2, h5, h7, h8, h13, h14, h15, rfl⟩
        refine vc_cut (fun s => gt s.sl 1 = .bool least ∧ gt s.sl 2 = .ptr 0 1 0 0 ∧ gt s.sl 5 = V.i (endsI m least (m.goal.take i)) ∧ gt s.sl 7 = .ptr 1 1 0 0 ∧ gt s.sl 8 = .ptr 2 1 0 0 ∧ gt s.sl 13 = vTerms m.goal ∧ gt s.sl 14 = V.i m.goal.length ∧ gt s.sl 15 = V.i i ∧ gt s.sl 29 = .bool (decide (0 < t.c) == least) ∧ s.hp = [.mem false [] [m.cells], .mem false [] [t.cells], .mem false [] [v.cells]]) (by simp [h1, h2, h5, h7, h8, h13, h14, h15, Term.cells]) ?_
        rintro ⟨sl, hp, bs⟩ ⟨h1, h2, h5, h7, h8, h13, h14, h15, h29, rfl⟩
        by_cases hc : decide (0 < t.c) = least
        · simp [h1, h2, h5, h7, h8, h13, h14, h15, h29, hc, Term.cells, Var.cells, hs, hsum, endOf, hvv]
        · simp [h1, h2, h5, h7, h8, h13, h14, h15, h29, hc, Term.cells, Var.cells, hs, hsum2, endOf, hvv]
      rintro ⟨sl, hp, bs⟩ ⟨h1, h2, h5, h13, h14, h15, rfl⟩
      simp [h1, h2, h5, h13, h14, h15, hw, vTerms, Term.cells, Var.cells, Model.cells, vVars, vCons, g15]
      exact ⟨⟨i + 1, by omega, rfl, by omega⟩, by omega⟩
    · obtain rfl : i = m.goal.length := by omega
      rw [List.take_length] at h5
      simp [model_ends.b0, h1, h5, h13, h14, h15]
  · rintro e ⟨sl, hp, bs⟩ ⟨rfl, h5⟩
    simp [h5, model_ends.rs]

theorem floor_spec (m : Model) (hm' : okModel m) : Pf Try.prog model_Floor.id [.agg m.cells] (V.i (endsB m true)) := by
  refine DC.of model_Floor.ok (by simp) ?_
  simp [model_Floor.ir, model_Floor.rs, Model.cells, vVars, vCons, vTerms]
  exact (ends_spec m true hm').use (by simp)

theorem ceil_spec (m : Model) (hm' : okModel m) : Pf Try.prog model_Ceil.id [.agg m.cells] (V.i (endsB m false)) := by
  refine DC.of model_Ceil.ok (by simp) ?_
  simp [model_Ceil.ir, model_Ceil.rs, Model.cells, vVars, vCons, vTerms]
  exact (ends_spec m false hm').use (by simp)
end Go.Abs.G

/- A value told otherwise; arguments that are told otherwise. -/
namespace Go.Abs

/-- What is so is also so. -/
def V.sub (x y : V) : Prop := ∀ (c : Cx) (v : Value), RV c v x → RV c v y
def V.subL (xs ys : List V) : Prop := xs.length = ys.length ∧ ∀ (i : Nat) (x y : V), xs[i]? = some x → ys[i]? = some y → x.sub y

theorem V.sub.refl (x : V) : x.sub x := fun _ _ h => h
theorem V.sub.nil (es : Nat) : (V.a (.slice none 0 0)).sub (.view es []) := fun c v h => by rw [h.of_a]; exact .nilv
theorem V.subL.nil : V.subL [] [] := ⟨rfl, fun i x y h => by simp at h⟩
theorem V.subL.cons {x y : V} {xs ys : List V} (h : x.sub y) (hs : V.subL xs ys) : V.subL (x :: xs) (y :: ys) := by
  refine ⟨by simp [hs.1], fun i u w h1 h2 => ?_⟩
  cases i with
  | zero => simp at h1 h2; subst h1; subst h2; exact h
  | succ i => exact hs.2 i u w (by simpa using h1) (by simpa using h2)
theorem V.subL.refl (xs : List V) : V.subL xs xs := ⟨rfl, fun i x y h1 h2 => by rw [h1] at h2; injection h2 with h2; subst h2; exact .refl _⟩
theorem V.sub.agg {xs ys : List V} (h : V.subL xs ys) : (V.agg xs).sub (.agg ys) := by
  intro c v hr
  cases hr with
  | agg hl h1 h2 =>
    refine .agg (by rw [hl]; exact h.1) h1 fun i v y hv hy => ?_
    have hi : i < xs.length := by rw [h.1]; exact lt_of_get hy
    exact h.2 i _ y (List.getElem?_eq_getElem hi) hy _ _ (h2 i v _ hv (List.getElem?_eq_getElem hi))

theorem DC.sub {P : Program} {f : FuncId} {xs ys : List V} {H : Heap} {Q : V → Heap → Prop} (hs : V.subL xs ys) (h : DC P f ys H Q) : DC P f xs H Q := by
  intro w β F vs hk hr
  refine h w β F vs hk ⟨by rw [hr.1]; exact hs.1, fun i v y hv hy => ?_⟩
  have hi : i < xs.length := by rw [hs.1]; exact lt_of_get hy
  exact hs.2 i _ y (List.getElem?_eq_getElem hi) hy _ _ (hr.2 i v _ hv (List.getElem?_eq_getElem hi))

theorem DP.sub {P : Program} {f : FuncId} {xs ys : List V} {Q : V → Prop} (hs : V.subL xs ys) (h : DP P f ys Q) : DP P f xs Q := DC.sub hs h

/-! Calls whose sequel stays as it is until the call is met. -/
class Fix {α : Type} (x : α) where
instance {α : Type} (x : α) : Fix x := ⟨⟩

def DPf (P : Program) (f : FuncId) (xs : List V) (Q : V → Prop) [Fix Q] : Prop := DP P f xs Q
def DCf (P : Program) (f : FuncId) (xs : List V) (H : Heap) (Q : V → Heap → Prop) [Fix Q] : Prop := DC P f xs H Q
def WIf (P : Program) (c : C) (Q : Ex → St → Prop) (st : St) [Fix Q] : Prop := WI P c Q st

section
variable {P : Program} {d : Option Nat} {fv : Operand} {xs : List Operand} {k : St → Prop} {st : St} {f : FuncId} {fs cs : List V}
theorem call_f : I.vc P (.call d f xs) k st = (V.idsL (xs.map st.ev) = [] ∧ DPf P f (xs.map st.ev) (fun r => k (st.put d r))) := rfl
theorem callv_f (h : st.ev fv = .fn (.func f) fs cs) : I.vc P (.callv d fv xs) k st = (okFunc P f = true ∧ V.idsL (fs ++ xs.map st.ev ++ cs) = [] ∧ DPf P f (fs ++ xs.map st.ev ++ cs) (fun r => k (st.put d r))) := by
  simp only [I.vc, h]; rfl
theorem callb_f (h : st.ev fv = .fn (.func f) fs cs) : I.vc P (.callb d fv xs) k st = (okFunc P f = true ∧ V.fzPL st.hp (fs ++ xs.map st.ev ++ cs) ∧ DPf P f (V.fzL st.hp (fs ++ xs.map st.ev ++ cs)) (fun r => r.flat = true ∧ k (st.put d r))) := by
  simp only [I.vc, h]; rfl
theorem callo_f (h : st.ev fv = .fn (.func f) fs cs) : I.vc P (.callo d fv xs) k st = (okFunc P f = true ∧ V.idsL (fs ++ xs.map st.ev ++ cs) = [] ∧ DCf P f (fs ++ xs.map st.ev ++ cs) [] (fun r H' => k ({ st with hp := st.hp ++ H'.map (O.ren (st.hp.length + ·)) }.put d (r.ren (st.hp.length + ·))))) := by
  simp only [I.vc, h]; rfl
theorem callb_fn : I.vc P (.callb d (.func f) xs) k st = (okFunc P f = true ∧ V.fzPL st.hp (xs.map st.ev) ∧ DPf P f (V.fzL st.hp (xs.map st.ev)) (fun r => r.flat = true ∧ k (st.put d r))) := by
  rw [callb_f (f := f) (fs := []) (cs := []) rfl]; simp only [List.nil_append, List.append_nil]
theorem callo_fn : I.vc P (.callo d (.func f) xs) k st = (okFunc P f = true ∧ V.idsL (xs.map st.ev) = [] ∧ DCf P f (xs.map st.ev) [] (fun r H' => k ({ st with hp := st.hp ++ H'.map (O.ren (st.hp.length + ·)) }.put d (r.ren (st.hp.length + ·))))) := by
  rw [callo_f (f := f) (fs := []) (cs := []) rfl]; simp only [List.nil_append, List.append_nil]
theorem loop_f {c : C} {Q : Ex → St → Prop} : vc P (.loop c) Q st = WIf P (.loop c) Q st := rfl
end
end Go.Abs

/- Holds, Solution: what they tell. -/
namespace Go.Abs

def opB (op n k : Int) : Bool := if op = 1 then decide (n ≤ k) else if op = 3 then decide (k ≤ n) else decide (n = k)
def maxI : List Int → Int
  | [] => 0
  | [x] => x
  | x :: l => max x (maxI l)
def minI : List Int → Int
  | [] => 0
  | [x] => x
  | x :: l => min x (minI l)
def holdsK (c : Con) (g : Int → Int) : Bool :=
  if c.kind = 1 then opB c.op (sumI g c.terms) c.k
  else if c.kind = 2 then decide (g c.x ≠ g c.y + c.k)
  else if c.kind = 3 then decide ((c.xs.map g).Nodup)
  else if c.kind = 4 then decide (0 ≤ g c.x) && decide (g c.x < c.table.length) && decide (g c.y = atI c.table (g c.x))
  else if c.kind = 5 then decide (g c.y = maxI (c.xs.map g))
  else if c.kind = 6 then decide (g c.y = minI (c.xs.map g))
  else if c.kind = 7 then (if sumI g c.terms ≤ c.k then decide (g c.x = 1) else decide (g c.x = 0))
  else if c.kind = 8 then c.rows.any fun r => decide (r = c.xs.map g)
  else opB c.op ((c.xs.filter fun x => decide (g x = c.v)).length) c.k
def holdsB (c : Con) (values : List Int) : Bool :=
  if decide (conB c values.length ≠ 0) || greatB values then false else holdsK c (atI values)
def inBounds (m : Model) (values : List Int) : Bool := (m.vars.zip values).all fun p => decide (p.1.lo ≤ p.2) && decide (p.2 ≤ p.1.hi)
def solB (m : Model) (values : List Int) : Bool :=
  if !rightB m || decide (values.length ≠ m.vars.length) then false else inBounds m values && m.cons.all fun c => holdsB c values

structure ConOk (c : Con) (vars : Nat) (n : Needs) : Prop where
  terms : ∀ t ∈ c.terms, TermOk vars t
  termsN : c.terms.length ≤ 64
  xs : ∀ x ∈ c.xs, 0 ≤ x ∧ x < vars
  xsN : c.xs.length ≤ 64
  xs1 : n.xs = true → 1 ≤ c.xs.length
  x : n.x = true → 0 ≤ c.x ∧ c.x < vars
  y : n.y = true → 0 ≤ c.y ∧ c.y < vars
  k : -1000000000 ≤ c.k ∧ c.k ≤ 1000000000
  rowsN : c.rows.length ≤ 64
  tableN : c.table.length ≤ 64

theorem ConOk.of {c : Con} {vars : Nat} {n : Needs} (h : conN c vars n = 0) : ConOk c vars n := by
  unfold conN at h
  split at h
  · cases h
  · split at h
    · cases h
    · next h1 =>
      split at h
      · cases h
      · next h2 =>
        split at h
        · cases h
        · next h3 =>
          split at h
          · cases h
          · next h4 =>
            split at h
            · cases h
            · next h5 =>
              simp only [Bool.or_eq_true, not_or, Bool.not_eq_true', Bool.and_eq_true, not_and, decide_eq_true_eq, Bool.not_eq_false] at h2 h3 h5
              obtain ⟨⟨⟨t1, t2⟩, t3⟩, t4⟩ := h2
              obtain ⟨⟨⟨v1, v2⟩, v3⟩, v4⟩ := h3
              obtain ⟨⟨⟨k1, k2⟩, k3⟩, k4⟩ := h5
              have hf : ∀ {a : Bool} {k : Nat}, fieldB c n = false → (!a && decide (0 < k)) = false → countsB a k = true → k ≤ 64 := by
                intro a k _ h h'
                unfold countsB at h'
                cases a <;> simp at h h' <;> omega
              have hfield : fieldB c n = false := by simpa using h1
              have hfl := hfield
              unfold fieldB at hfl
              simp only [Bool.or_eq_false_iff] at hfl
              obtain ⟨⟨⟨⟨_, f1⟩, f2⟩, f3⟩, f4⟩ := hfl
              refine ⟨TermOk.of (by simpa using v1) (by simpa using h4), hf hfield f1 t1, fun x hx => ?_, hf hfield f2 t2, fun hn => ?_, fun hn => ?_, fun hn => ?_, ?_, ?_, hf hfield f3 t3⟩
              · have := (List.any_eq_false.1 (by simpa using v4 : c.xs.any (noB vars) = false)) x hx
                simp [noB] at this
                omega
              · unfold countsB at t2
                rw [hn] at t2
                simp at t2
                omega
              · have := v2 hn
                simp [noB] at this
                omega
              · have := v3 hn
                simp [noB] at this
                omega
              · simp [withinB] at k1
                omega
              · cases hn : n.rows
                · rw [hn] at f4
                  simp at f4
                  simp [f4]
                · have h5' := t4
                  simp [wideB, hn, countsB] at h5'
                  omega
end Go.Abs

namespace Go.Abs.G
open Go.Proofs
set_option linter.unusedVariables false
set_option linter.unusedSimpArgs false

structure AtOk (f : FuncId) (cap : List V) (g : Int → Int) (vars : Nat) : Prop where
  ok : okFunc Try.prog f = true
  ids : V.idsL cap = []
  run : ∀ x : Int, 0 ≤ x → x < vars → DP Try.prog f (V.i x :: cap) fun r => r = V.i (g x)
  bound : ∀ x : Int, 0 ≤ x → x < vars → -1000000000 ≤ g x ∧ g x ≤ 1000000000

theorem is_spec (op n k : Int) : Pf Try.prog model_is.id [V.i op, V.i n, V.i k] (.bool (opB op n k)) := by
  refine DC.of model_is.ok (by simp) ?_
  by_cases h1 : op = 1
  · subst h1; simp [model_is.ir, model_is.rs, opB]
  · by_cases h3 : op = 3
    · subst h3; simp [model_is.ir, model_is.rs, opB]
    · simp [model_is.ir, model_is.rs, opB, h1, h3]
      rfl

theorem holds1_spec (values : List Int) (x : Int) (h0 : 0 ≤ x) (h1 : x < values.length) : Pf Try.prog model_Holds_1.id [V.i x, .ref [vInts values] 0] (V.i (atI values x)) := by
  refine DC.of model_Holds_1.ok (by simp) ?_
  obtain ⟨n, rfl⟩ := Int.eq_ofNat_of_zero_le h0
  have h1' : n < values.length := by omega
  simp [model_Holds_1.ir, model_Holds_1.rs, vInts, h1', atI]

section
variable {f : FuncId} {cap : List V} {g : Int → Int} {vars : Nat} (A : AtOk f cap g vars)
include A

theorem sumAt_spec {l : List Term} (hl : l.length ≤ 64) (ht : ∀ t ∈ l, TermOk vars t) : Pf Try.prog model_sum.id [vTerms l, .fn (.func f) [] cap] (V.i (sumI g l)) :=
  sum_spec A.ok A.ids (fun t h => A.run _ (ht t h).x.1 (ht t h).x.2) hl fun t h => ⟨⟨(ht t h).c.1, (ht t h).c.2.1⟩, A.bound _ (ht t h).x.1 (ht t h).x.2⟩

theorem lin_spec {c : Con} {n : Needs} (hk : c.kind = 1) (hc : ConOk c vars n) : Pf Try.prog model_lin.id [.agg c.cells, .fn (.func f) [] cap] (.bool (holdsK c g)) := by
  have hid := A.ids
  refine DC.of model_lin.ok (by simp) ?_
  simp [model_lin.ir, model_lin.rs, Con.cells, vTerms, vInts, vIntss, hid]
  refine (sumAt_spec A hc.termsN hc.terms).use ?_
  simp [hid]
  refine (is_spec c.op (sumI g c.terms) c.k).use ?_
  simp [holdsK, hk]

theorem ne_spec {c : Con} {n : Needs} (hk : c.kind = 2) (hx : n.x = true) (hy : n.y = true) (hc : ConOk c vars n) : Pf Try.prog model_kinds_1.id [.agg c.cells, .fn (.func f) [] cap] (.bool (holdsK c g)) := by
  have hid := A.ids
  have hok := A.ok
  refine DC.of model_kinds_1.ok (by simp) ?_
  simp [model_kinds_1.ir, model_kinds_1.rs, Con.cells, vTerms, vInts, vIntss, hid, hok]
  refine DP.mono (A.run _ (hc.x hx).1 (hc.x hx).2) fun r hr => ?_
  subst hr
  refine DP.mono (A.run _ (hc.y hy).1 (hc.y hy).2) fun r hr => ?_
  subst hr
  have hb := A.bound _ (hc.y hy).1 (hc.y hy).2
  have hk' := hc.k
  have hw : IntKind.i64.wrap (g c.y + c.k) = g c.y + c.k := by rw [wrap64] <;> omega
  simp [hw, holdsK, hk]
  by_cases h : g c.x = g c.y + c.k <;> simp [h]

theorem element_spec {c : Con} {n : Needs} (hk : c.kind = 4) (hx : n.x = true) (hy : n.y = true) (hc : ConOk c vars n) : Pf Try.prog model_element.id [.agg c.cells, .fn (.func f) [] cap] (.bool (holdsK c g)) := by
  have hid := A.ids
  have hok := A.ok
  refine DC.of model_element.ok (by simp) ?_
  simp [model_element.ir, model_element.rs, Con.cells, vTerms, vInts, vIntss, hid, hok]
  refine DP.mono (A.run _ (hc.x hx).1 (hc.x hx).2) fun r hr => ?_
  subst hr
  generalize hi : g c.x = i
  by_cases h0 : 0 ≤ i
  · by_cases h1 : i < c.table.length
    · obtain ⟨k, rfl⟩ := Int.eq_ofNat_of_zero_le h0
      have h1' : k < c.table.length := by omega
      simp [hid, hok, h1', hi]
      refine DP.mono (A.run _ (hc.y hy).1 (hc.y hy).2) fun r hr => ?_
      subst hr
      simp [hid, hok, h1', holdsK, hk, hi, atI]
      rfl
    · simp [hid, hok, h0, h1, holdsK, hk, hi]
  · simp [hid, hok, h0, holdsK, hk, hi]

theorem reif_spec {c : Con} {n : Needs} (hk : c.kind = 7) (hx : n.x = true) (hc : ConOk c vars n) : Pf Try.prog model_reif.id [.agg c.cells, .fn (.func f) [] cap] (.bool (holdsK c g)) := by
  have hid := A.ids
  have hok := A.ok
  refine DC.of model_reif.ok (by simp) ?_
  simp [model_reif.ir, model_reif.rs, Con.cells, vTerms, vInts, vIntss, hid, hok]
  refine DP.mono (A.run _ (hc.x hx).1 (hc.x hx).2) fun r hr => ?_
  subst hr
  simp [hid, hok]
  refine (sumAt_spec A hc.termsN hc.terms).use ?_
  by_cases h : sumI g c.terms ≤ c.k
  · simp [hid, hok, h, holdsK, hk]
    rfl
  · simp [hid, hok, h, holdsK, hk]
    rfl

theorem each_spec {xs : List Int} (hl : xs.length ≤ 64) (hx : ∀ x ∈ xs, 0 ≤ x ∧ x < vars) : Pf Try.prog model_each.id [vInts xs, .fn (.func f) [] cap] (vInts (xs.map g)) := by
  have hid := A.ids
  have hok := A.ok
  refine DC.of model_each.ok (by simp) ?_
  simp [model_each.ir, model_each.rs, vInts, hid, hok]
  refine WI.mono (Q := fun e s => e = .exit 0 ∧ ((xs = [] ∧ gt s.sl 5 = .a (.slice none 0 0) ∧ s.hp = []) ∨ ∃ o, gt s.sl 5 = .own 1 1 0 xs.length xs.length ∧ s.hp = [o, .mem false [] ((xs.map g).map fun x => [V.i x])])) (WI.loop 2 (by simp) (fun s => ∃ i, i ≤ xs.length ∧ gt s.sl 1 = .fn (.func f) [] cap ∧ gt s.sl 8 = vInts xs ∧ gt s.sl 9 = V.i xs.length ∧ gt s.sl 10 = V.i i ∧
      ((i = 0 ∧ gt s.sl 5 = .a (.slice none 0 0) ∧ s.hp = []) ∨ ∃ o, 0 < i ∧ gt s.sl 5 = .own 1 1 0 i i ∧ s.hp = [o, .mem false [] (((xs.take i).map g).map fun x => [V.i x])])) (fun s => (xs.length - (gt s.sl 10).num).toNat) ?_ ?_) ?_
  · exact ⟨0, by simp [vInts]⟩
  · rintro ⟨sl, hp, bs⟩ ⟨i, hi, h1, h8, h9, h10, hcase⟩
    by_cases hil : i < xs.length
    · have hxi := hx _ (List.getElem_mem hil)
      have hw : IntKind.i64.wrap ((i : Int) + 1) = ((i + 1 : Nat) : Int) := by rw [wrap64] <;> omega
      have htk : List.take (i + 1) (List.map ((fun n => [V.i n]) ∘ g) xs) = List.take i (List.map ((fun n => [V.i n]) ∘ g) xs) ++ [[V.i (g xs[i])]] := by
        rw [List.take_succ_eq_append_getElem (by simpa using hil)]; simp
      have h1w : IntKind.i64.wrap 1 = 1 := by decide
      rcases hcase with ⟨rfl, h5, rfl⟩ | ⟨o, h0, h5, rfl⟩
      · simp [model_each.b0, h1, h5, h8, h9, h10, vInts, hil, hid, hok]
        refine DP.mono (A.run _ hxi.1 hxi.2) fun r hr => ?_
        subst hr
        simp [hid, hok]
        exact ⟨⟨1, by omega, h1w, by omega, rfl, by simpa using htk.symm⟩, by omega⟩
      · simp [model_each.b0, h1, h5, h8, h9, h10, vInts, hil, hid, hok]
        refine DP.mono (A.run _ hxi.1 hxi.2) fun r hr => ?_
        subst hr
        simp [hid, hok]
        exact ⟨by omega, by omega, ⟨i + 1, by omega, hw, by omega, rfl, htk.symm⟩, by omega⟩
    · obtain rfl : i = xs.length := by omega
      simp [model_each.b0, h1, h8, h9, h10]
      rcases hcase with ⟨h0, h5, rfl⟩ | ⟨o, h0, h5, rfl⟩
      · exact .inl ⟨by simpa using h0, h5, rfl⟩
      · refine .inr ⟨h5, ?_⟩
        simp
  · rintro e ⟨sl, hp, bs⟩ ⟨rfl, ⟨h0, h5, rfl⟩ | ⟨o, h5, rfl⟩⟩
    · simp [h0, h5]
    · simp [h5]
      exact List.take_of_length_le (by simp)
end
end Go.Abs.G

namespace Go.Abs.G
open Go.Proofs
set_option linter.unusedVariables false
set_option linter.unusedSimpArgs false

theorem equal_spec (a b : List Int) (ha : a.length ≤ maxLen) : Pf Try.prog slices_Equal_Lint_int.id [vInts a, vInts b] (.bool (decide (a = b))) := by
  have hm : (maxLen : Int) ≤ 9223372036854775807 := by decide
  refine DC.of slices_Equal_Lint_int.ok (by simp) ?_
  by_cases hl : a.length = b.length
  · have hl' : (a.length : Int) = b.length := by omega
    simp [slices_Equal_Lint_int.ir, slices_Equal_Lint_int.rs, vInts, hl]
    refine WI.mono (Q := fun e s => (e = .exit 0 ∧ a = b) ∨ (e = .ret ∧ a ≠ b ∧ gt s.sl 4 = .bool false)) (WI.loop 0 (by simp) (fun s => ∃ i, i ≤ a.length ∧ gt s.sl 0 = vInts a ∧ gt s.sl 1 = vInts b ∧ gt s.sl 12 = V.i a.length ∧ gt s.sl 13 = V.i i ∧ s.hp = [] ∧ a.take i = b.take i) (fun s => (a.length - (gt s.sl 13).num).toNat) ?_ ?_) ?_
    · exact ⟨0, by simp [vInts, hl]⟩
    · rintro ⟨sl, hp, bs⟩ ⟨i, hi, h0, h1, h12, h13, rfl, he⟩
      by_cases hil : i < a.length
      · have hil2 : i < b.length := by omega
        have hw : IntKind.i64.wrap ((i : Int) + 1) = ((i + 1 : Nat) : Int) := by rw [wrap64] <;> omega
        by_cases hx : a[i] = b[i]
        · have he' : a.take (i + 1) = b.take (i + 1) := by
            rw [List.take_succ_eq_append_getElem hil, List.take_succ_eq_append_getElem hil2, he, hx]
          simp [slices_Equal_Lint_int.b0, h0, h1, h12, h13, vInts, hil, hil2, hx, hw]
          exact ⟨⟨i + 1, by omega, by omega, he'⟩, by omega⟩
        · simp [slices_Equal_Lint_int.b0, h0, h1, h12, h13, vInts, hil, hil2, hx]
          exact fun h => hx (by simp [h])
      · obtain rfl : i = a.length := by omega
        rw [List.take_length, hl, List.take_length] at he
        simp [slices_Equal_Lint_int.b0, h0, h1, h12, h13, he]
    · rintro e ⟨sl, hp, bs⟩ (⟨rfl, he⟩ | ⟨rfl, he, h4⟩)
      · simp [he]
      · simp [he, h4]
  · have hl' : ¬ (a.length : Int) = b.length := by omega
    have hne : a ≠ b := fun h => hl (by rw [h])
    simp [slices_Equal_Lint_int.ir, slices_Equal_Lint_int.rs, vInts, hl, hl', hne]

theorem table1_spec (r l : List Int) (hr : r.length ≤ maxLen) : Pf Try.prog model_table_1.id [vInts r, .ref [vInts l] 0] (.bool (decide (r = l))) := by
  refine DC.of model_table_1.ok (by simp) ?_
  simp [model_table_1.ir, model_table_1.rs, vInts]
  exact (equal_spec r l hr).use (by simp)

section
variable {f : FuncId} {cap : List V} {g : Int → Int} {vars : Nat} (A : AtOk f cap g vars)
include A

theorem table_spec {c : Con} {n : Needs} (hk : c.kind = 8) (hc : ConOk c vars n) (hr : ∀ r ∈ c.rows, r.length ≤ maxLen) : Pf Try.prog model_table.id [.agg c.cells, .fn (.func f) [] cap] (.bool (holdsK c g)) := by
  have hm : (64 : Nat) ≤ maxLen := by decide
  have hid := A.ids
  have hok := A.ok
  refine DC.of model_table.ok (by simp) ?_
  simp [model_table.ir, model_table.rs, Con.cells, vTerms, vInts, vIntss, hid, hok]
  refine (each_spec A hc.xsN hc.xs).use ?_
  have hH : holdsK c g = c.rows.any fun r => decide (r = c.xs.map g) := by simp [holdsK, hk]
  rw [hH]
  generalize c.xs.map g = L
  simp [vInts]
  refine DP.mono (contains_ints_spec (p := fun r => decide (r = L)) (cap := [.ref [vInts L] 0]) (l := c.rows) (by simp) (by simp) (fun t ht => table1_spec t _ (hr t ht)) (by have := hc.rowsN; omega)) fun r hr' => ?_
  subst hr'
  simp

theorem filter_take_succ (p : Int → Bool) {l : List Int} {i : Nat} (h : i < l.length) : ((l.take (i + 1)).filter p).length = ((l.take i).filter p).length + if p l[i] then 1 else 0 := by
  rw [List.take_succ_eq_append_getElem h, List.filter_append, List.length_append]
  by_cases hp : p l[i] = true <;> simp [hp]

theorem count_spec {c : Con} {n : Needs} (hk : c.kind = 9) (hc : ConOk c vars n) : Pf Try.prog model_count.id [.agg c.cells, .fn (.func f) [] cap] (.bool (holdsK c g)) := by
  have hid := A.ids
  have hok := A.ok
  have hn := hc.xsN
  refine DC.of model_count.ok (by simp) ?_
  simp [model_count.ir, model_count.rs, Con.cells, vTerms, vInts, vIntss, hid, hok]
  refine (each_spec A hc.xsN hc.xs).use ?_
  simp [vInts, hid]
  refine WI.mono (Q := fun e s => e = .exit 0 ∧ gt s.sl 2 = .ptr 0 1 0 0 ∧ gt s.sl 5 = V.i ((c.xs.filter fun x => decide (g x = c.v)).length) ∧ s.hp = [.mem false [] [c.cells]]) (WI.loop 1 (by simp) (fun s => ∃ i, i ≤ c.xs.length ∧ gt s.sl 2 = .ptr 0 1 0 0 ∧ gt s.sl 5 = V.i (((c.xs.take i).filter fun x => decide (g x = c.v)).length) ∧ gt s.sl 11 = vInts (c.xs.map g) ∧ gt s.sl 12 = V.i c.xs.length ∧ gt s.sl 13 = V.i i ∧ s.hp = [.mem false [] [c.cells]]) (fun s => (c.xs.length - (gt s.sl 13).num).toNat) ?_ ?_) ?_
  · exact ⟨0, by simp [vInts, Con.cells, vTerms, vIntss]⟩
  · rintro ⟨sl, hp, bs⟩ ⟨i, hi, h2, h5, h11, h12, h13, rfl⟩
    by_cases hil : i < c.xs.length
    · have hw : IntKind.i64.wrap ((i : Int) + 1) = ((i + 1 : Nat) : Int) := by rw [wrap64] <;> omega
      have hs := filter_take_succ A (fun x => decide (g x = c.v)) hil
      have hle : ((c.xs.take i).filter fun x => decide (g x = c.v)).length ≤ 64 := by
        have := List.length_filter_le (fun x => decide (g x = c.v)) (c.xs.take i)
        simp at this; omega
      generalize hN : ((c.xs.take i).filter fun x => decide (g x = c.v)).length = N at *
      have hw2 : IntKind.i64.wrap ((N : Int) + 1) = ((N + 1 : Nat) : Int) := by rw [wrap64] <;> omega
      by_cases hx : g c.xs[i] = c.v
      · simp [model_count.b0, h2, h5, h11, h12, h13, vInts, Con.cells, vTerms, vIntss, hil, hx, hw, hw2]
        simp [hx] at hs
        exact ⟨⟨i + 1, by omega, by omega, by omega⟩, by omega⟩
      · simp [model_count.b0, h2, h5, h11, h12, h13, vInts, Con.cells, vTerms, vIntss, hil, hx, hw, hw2]
        simp [hx] at hs
        exact ⟨⟨i + 1, by omega, by omega, by omega⟩, by omega⟩
    · obtain rfl : i = c.xs.length := by omega
      rw [List.take_length] at h5
      simp [model_count.b0, h2, h5, h11, h12, h13]
  · rintro e ⟨sl, hp, bs⟩ ⟨rfl, h2, h5, rfl⟩
    simp [h2, h5, Con.cells, vTerms, vInts, vIntss]
    refine (is_spec c.op _ c.k).use ?_
    simp [holdsK, hk]
end
end Go.Abs.G

namespace Go.Abs.G
open Go.Proofs
set_option linter.unusedVariables false
set_option linter.unusedSimpArgs false

abbrev rowsO (d : Array Int) : O := .mem false [] (d.toList.map fun n => [V.a (.int .i64 n)])
abbrev dataV (n : Nat) : V := .own 0 1 0 n n
abbrev vi (n : Int) : V := .a (.int .i64 n)

theorem isNaN_spec (x : Int) : Pf Try.prog cmp_isNaN_int.id [vi x] (.bool false) := by
  refine DC.of cmp_isNaN_int.ok (by simp) ?_
  simp [cmp_isNaN_int.ir, cmp_isNaN_int.rs]

theorem less_spec (x y : Int) : Pf Try.prog cmp_Less_int.id [vi x, vi y] (.bool (Go.Sort.ltInt x y)) := by
  refine DC.of cmp_Less_int.ok (by simp) ?_
  simp -dsimp [↓call_f, cmp_Less_int.ir, cmp_Less_int.rs]
  refine (isNaN_spec x).use ?_
  simp -dsimp [↓call_f, cmp_Less_int.ir, cmp_Less_int.rs, Go.Sort.ltInt]

theorem get_bang (d : Array Int) {i : Nat} (h : i < d.size) : d[i]! = d[i] := getElem!_pos d i h
theorem swp_size (d : Array Int) (i j : Nat) : (Go.Sort.swp d i j).size = d.size := by simp [Go.Sort.swp]
theorem swp_rows (d : Array Int) {i j : Nat} (hi : i < d.size) (hj : j < d.size) : ((d.toList.map fun n => [V.a (.int .i64 n)]).set i [V.a (.int .i64 d[j])]).set j [V.a (.int .i64 d[i])] = (Go.Sort.swp d i j).toList.map fun n => [V.a (.int .i64 n)] := by
  simp only [Go.Sort.swp, Array.toList_setIfInBounds, List.map_set, get_bang d hi, get_bang d hj]

theorem insInner_size (a : Nat) : ∀ (j : Nat) (d : Array Int), (Go.Sort.insInner Go.Sort.ltInt a j d).size = d.size := by
  intro j
  induction j with
  | zero => intro d; rfl
  | succ j ih =>
    intro d
    simp only [Go.Sort.insInner]
    split
    · rw [ih, swp_size]
    · rfl

theorem insInner_loop {n a b i : Nat} (hs : n ≤ 4611686018427387904) (hi : i < n) (d : Array Int) (hd : d.size = n) (Q : Ex → St → Prop) (sl : Sl) (bs : Nat)
    (h0 : gt sl 0 = dataV n) (h1 : gt sl 1 = vi a) (h2 : gt sl 2 = vi b) (h6 : gt sl 6 = vi i) (h7 : gt sl 7 = vi i)
    (hq : ∀ s, gt s.sl 0 = dataV n → gt s.sl 1 = vi a → gt s.sl 2 = vi b → gt s.sl 6 = vi i → s.hp = [rowsO (Go.Sort.insInner Go.Sort.ltInt a i d)] → Q (.exit 2) s) :
    WI Try.prog (.loop slices_insertionSortOrdered_int.b1) Q ⟨sl, [rowsO d], bs⟩ := by
  refine WI.loop 1 (by simp) (fun s => ∃ (j : Nat) (d' : Array Int), j ≤ i ∧ d'.size = n ∧ gt s.sl 0 = dataV n ∧ gt s.sl 1 = vi a ∧ gt s.sl 2 = vi b ∧ gt s.sl 6 = vi i ∧ gt s.sl 7 = vi j ∧ s.hp = [rowsO d'] ∧ Go.Sort.insInner Go.Sort.ltInt a i d = Go.Sort.insInner Go.Sort.ltInt a j d') (fun s => (gt s.sl 7).num.toNat) ?_ ?_
  · exact ⟨i, d, Nat.le_refl _, hd, h0, h1, h2, h6, h7, rfl, rfl⟩
  · clear h0 h1 h2 h6 h7 hd
    rintro ⟨sl, hp, bs⟩ ⟨j, d', hj, hd, h0, h1, h2, h6, h7, rfl, he⟩
    cases j with
    | zero =>
      have g0 : Go.Sort.insInner Go.Sort.ltInt a 0 d' = d' := rfl
      rw [g0] at he
      have hna : ¬ (a : Int) < 0 := by omega
      simp -dsimp [↓call_f, slices_insertionSortOrdered_int.b1, h0, h1, h2, h6, h7, hna]
      exact hq _ (by simp) (by simp) (by simp) (by simp) (by simp [he])
    | succ j =>
      have hj1 : j + 1 < d'.size := by omega
      have hj0 : j < d'.size := by omega
      have hw : IntKind.i64.wrap (((j + 1 : Nat) : Int) - 1) = (j : Int) := by rw [wrap64] <;> omega
      by_cases hja : a < j + 1
      · have hja' : (a : Int) < (j : Int) + 1 := by omega
        have hle1 : j + 1 < n := by omega
        have hle0 : j < n := by omega
        simp only [Go.Sort.insInner] at he
        rw [get_bang d' hj1, get_bang d' hj0] at he
        have hws : IntKind.i64.wrap (j : Int) = (j : Int) := by rw [wrap64] <;> omega
        simp -dsimp [↓call_f, slices_insertionSortOrdered_int.b1, h0, h1, h2, h6, h7, hja', hws, hd, hle1, hle0]
        refine ⟨by omega, ?_⟩
        refine (less_spec d'[j + 1] d'[j]).use ?_
        have hsw := swp_rows d' hj1 hj0
        by_cases hlt : Go.Sort.ltInt d'[j + 1] d'[j] = true
        · rw [hlt, if_pos (by simp; omega)] at he
          simp -dsimp [hlt, h0, h1, h2, h6, h7, hws, hd, hle1, hle0]
          exact ⟨by omega, ⟨j, by omega, Go.Sort.swp d' (j + 1) j, by rw [swp_size]; exact hd, rfl, hsw, he⟩, by omega⟩
        · have hlt : Go.Sort.ltInt d'[j + 1] d'[j] = false := by simpa using hlt
          rw [hlt] at he
          simp -dsimp [hlt, h0, h1, h2, h6, h7]
          exact hq _ (by simp) (by simp) (by simp) (by simp) (by simp [he])
      · have hja' : ¬ (a : Int) < (j : Int) + 1 := by omega
        simp only [Go.Sort.insInner] at he
        rw [if_neg (by simp; omega)] at he
        simp -dsimp [↓call_f, slices_insertionSortOrdered_int.b1, h0, h1, h2, h6, h7, hja']
        exact hq _ (by simp) (by simp) (by simp) (by simp) (by simp [he])


theorem insertion_spec (d : Array Int) (a b : Nat) (ha : a ≤ d.size) (hb : b ≤ d.size) (hs : d.size ≤ 4611686018427387904) :
    DC Try.prog slices_insertionSortOrdered_int.id [dataV d.size, vi a, vi b] [rowsO d] (fun r H => H = [rowsO (Go.Sort.insertionSort Go.Sort.ltInt d a b)]) := by
  refine DC.of slices_insertionSortOrdered_int.ok (by simp) ?_
  have hw : IntKind.i64.wrap ((a : Int) + 1) = ((a + 1 : Nat) : Int) := by rw [wrap64] <;> omega
  simp -dsimp [↓loop_f, slices_insertionSortOrdered_int.ir, slices_insertionSortOrdered_int.rs, hw]
  refine WI.loop 1 (by simp) (fun s => ∃ (i : Nat) (d' : Array Int), d'.size = d.size ∧ gt s.sl 0 = dataV d.size ∧ gt s.sl 1 = vi a ∧ gt s.sl 2 = vi b ∧ gt s.sl 6 = vi i ∧ s.hp = [rowsO d'] ∧ Go.Sort.insertionSort Go.Sort.ltInt d a b = Go.Sort.insOuter Go.Sort.ltInt a b i d') (fun s => (b - (gt s.sl 6).num).toNat) ?_ ?_
  · exact ⟨a + 1, d, rfl, by simp, by simp, by simp, by simp, rfl, rfl⟩
  · rintro ⟨sl, hp, bs⟩ ⟨i, d', hd, h0, h1, h2, h6, rfl, he⟩
    rw [Go.Sort.insOuter] at he
    by_cases hib : i < b
    · rw [if_pos hib] at he
      have hwi : IntKind.i64.wrap ((i : Int) + 1) = ((i + 1 : Nat) : Int) := by rw [wrap64] <;> omega
      simp -dsimp [↓loop_f, slices_insertionSortOrdered_int.b0, h0, h1, h2, h6, hib]
      refine insInner_loop (n := d.size) (a := a) (b := b) (i := i) hs (by omega) d' hd _ _ _ (by simp) (by simp) (by simp) (by simp) (by simp) ?_
      rintro ⟨sl, hp, bs⟩ h0 h1 h2 h6 rfl
      simp -dsimp [h0, h1, h2, h6, hwi]
      exact ⟨⟨i + 1, Go.Sort.insInner Go.Sort.ltInt a i d', by rw [insInner_size]; exact hd, by omega, rfl, he⟩, by omega⟩
    · rw [if_neg hib] at he
      simp -dsimp [slices_insertionSortOrdered_int.b0, h0, h1, h2, h6, hib, he]
end Go.Abs.G

/- A call of a function that is handed objects, by its constant. -/
namespace Go.Abs
theorem callm_fn {P : Program} {d : Option Nat} {f : FuncId} {xs : List Operand} {k : St → Prop} {st : St} : I.vc P (.callm d (.func f) xs) k st = (okFunc P f = true ∧ OkSel st.hp (clos st.hp 8 (addAll [] (V.idsL (xs.map st.ev)))) ∧
    DCf P f (V.renL (idx (clos st.hp 8 (addAll [] (V.idsL (xs.map st.ev))))) (xs.map st.ev)) (sub st.hp (clos st.hp 8 (addAll [] (V.idsL (xs.map st.ev))))) (fun r H' =>
      k ({ st with hp := merge st.hp (clos st.hp 8 (addAll [] (V.idsL (xs.map st.ev)))) H' }.put d (r.ren (back (clos st.hp 8 (addAll [] (V.idsL (xs.map st.ev)))) st.hp.length))))) := by
  simp only [I.vc, St.ev, List.nil_append, List.append_nil]; rfl
theorem calla_fn {P : Program} {ap : List Nat} {d : Option Nat} {f : FuncId} {xs : List Operand} {k : St → Prop} {st : St} : I.vc P (.calla ap d (.func f) xs) k st = (okFunc P f = true ∧ OkSel st.hp (clos st.hp 8 (addAll [] (V.idsL (xs.map st.ev)))) ∧
    (∀ t ∈ ap, ∀ k, (gt st.sl t).oid = some k → k ∉ clos st.hp 8 (addAll [] (V.idsL (xs.map st.ev)))) ∧
    DCf P f (V.renL (idx (clos st.hp 8 (addAll [] (V.idsL (xs.map st.ev))))) (xs.map st.ev)) (sub st.hp (clos st.hp 8 (addAll [] (V.idsL (xs.map st.ev))))) (fun r H' =>
      k ({ st with hp := merge st.hp (clos st.hp 8 (addAll [] (V.idsL (xs.map st.ev)))) H' }.put d (r.ren (back (clos st.hp 8 (addAll [] (V.idsL (xs.map st.ev)))) st.hp.length))))) := by
  simp only [I.vc, St.ev, List.nil_append, List.append_nil]; rfl
theorem Pf.use' {P : Program} {f : FuncId} {xs ys : List V} {r : V} {Q : V → Prop} (h : Pf P f ys r) (he : xs = ys) (hq : Q r) : DP P f xs Q := he ▸ h.use hq
end Go.Abs

namespace Go.Abs.G
open Go.Proofs
set_option linter.unusedVariables false
set_option linter.unusedSimpArgs false

theorem reverse_spec (d : Array Int) (a b : Nat) (hb1 : 1 ≤ b) (hb : b ≤ d.size) (hs : d.size ≤ 4611686018427387904) :
    DC Try.prog slices_reverseRangeOrdered_int.id [dataV d.size, vi a, vi b] [rowsO d] (fun r H => H = [rowsO (Go.Sort.reverseRange d a b)]) := by
  refine DC.of slices_reverseRangeOrdered_int.ok (by simp) ?_
  have hw : IntKind.i64.wrap ((b : Int) - 1) = ((b - 1 : Nat) : Int) := by rw [wrap64] <;> omega
  simp -dsimp [↓loop_f, slices_reverseRangeOrdered_int.ir, slices_reverseRangeOrdered_int.rs, hw]
  refine WI.loop 1 (by simp) (fun s => ∃ (i j : Nat) (d' : Array Int), j < d.size ∧ d'.size = d.size ∧ gt s.sl 0 = dataV d.size ∧ gt s.sl 6 = vi i ∧ gt s.sl 7 = vi j ∧ s.hp = [rowsO d'] ∧ Go.Sort.reverseRange d a b = Go.Sort.reverseLoop i j d') (fun s => ((gt s.sl 7).num - (gt s.sl 6).num).toNat) ?_ ?_
  · exact ⟨a, b - 1, d, by omega, rfl, by simp, by simp, by simp, rfl, rfl⟩
  · rintro ⟨sl, hp, bs⟩ ⟨i, j, d', hj, hd, h0, h6, h7, rfl, he⟩
    rw [Go.Sort.reverseLoop] at he
    by_cases hij : i < j
    · rw [if_pos hij] at he
      have hi1 : i < d'.size := by omega
      have hj1 : j < d'.size := by omega
      have hin : i < d.size := by omega
      have hsw := swp_rows d' hi1 hj1
      have hwi : IntKind.i64.wrap ((i : Int) + 1) = ((i + 1 : Nat) : Int) := by rw [wrap64] <;> omega
      have hwj : IntKind.i64.wrap ((j : Int) - 1) = ((j - 1 : Nat) : Int) := by rw [wrap64] <;> omega
      have hne : ¬ i = j := by omega
      simp -dsimp [slices_reverseRangeOrdered_int.b0, h0, h6, h7, hij, hd, hin, hj, hwi, hwj, hne, List.getElem_set]
      exact ⟨⟨i + 1, j - 1, by omega, Go.Sort.swp d' i j, by rw [swp_size]; exact hd, by omega, rfl, hsw, he⟩, by omega⟩
    · rw [if_neg hij] at he
      simp -dsimp [slices_reverseRangeOrdered_int.b0, h0, h6, h7, hij, he]

abbrev swO (s : Nat) : O := .mem false [] [[vi s]]

theorem order2_spec (d : Array Int) (a b s : Nat) (ha : a < d.size) (hb : b < d.size) (hs : s ≤ 1000) :
    DC Try.prog slices_order2Ordered_int.id [dataV d.size, vi a, vi b, .ptr 1 1 0 0] [rowsO d, swO s] (fun r H => r = .tup [vi (Go.Sort.order2 Go.Sort.ltInt d a b s).1, vi (Go.Sort.order2 Go.Sort.ltInt d a b s).2.1] ∧ H = [rowsO d, swO (Go.Sort.order2 Go.Sort.ltInt d a b s).2.2]) := by
  refine DC.of slices_order2Ordered_int.ok (by simp) ?_
  have hw : IntKind.i64.wrap ((s : Int) + 1) = ((s + 1 : Nat) : Int) := by rw [wrap64] <;> omega
  simp -dsimp [↓call_f, slices_order2Ordered_int.ir, slices_order2Ordered_int.rs, ha, hb]
  refine (less_spec d[b] d[a]).use ?_
  unfold Go.Sort.order2
  rw [get_bang d ha, get_bang d hb]
  by_cases hlt : Go.Sort.ltInt d[b] d[a] = true
  · simp -dsimp [hlt, hw, slices_order2Ordered_int.rs]
  · have hlt : Go.Sort.ltInt d[b] d[a] = false := by simpa using hlt
    simp -dsimp [hlt, slices_order2Ordered_int.rs]

theorem order2_bound (d : Array Int) (a b s n : Nat) (ha : a < n) (hb : b < n) : (Go.Sort.order2 Go.Sort.ltInt d a b s).1 < n ∧ (Go.Sort.order2 Go.Sort.ltInt d a b s).2.1 < n ∧ (Go.Sort.order2 Go.Sort.ltInt d a b s).2.2 ≤ s + 1 := by
  unfold Go.Sort.order2
  split <;> simp <;> omega

theorem median_spec (d : Array Int) (a b c s : Nat) (ha : a < d.size) (hb : b < d.size) (hc : c < d.size) (hs : s ≤ 900) :
    DC Try.prog slices_medianOrdered_int.id [dataV d.size, vi a, vi b, vi c, .ptr 1 1 0 0] [rowsO d, swO s] (fun r H => r = vi (Go.Sort.median Go.Sort.ltInt d a b c s).1 ∧ H = [rowsO d, swO (Go.Sort.median Go.Sort.ltInt d a b c s).2]) := by
  refine DC.of slices_medianOrdered_int.ok (by simp) ?_
  have hn := order2_bound d a b s d.size ha hb
  have g1 := order2_spec d a b s ha hb (by omega)
  unfold Go.Sort.median
  generalize Go.Sort.order2 Go.Sort.ltInt d a b s = r1 at *
  obtain ⟨a1, b1, s1⟩ := r1
  simp only at hn g1 ⊢
  have hn2 := order2_bound d b1 c s1 d.size hn.2.1 hc
  have g2 := order2_spec d b1 c s1 hn.2.1 hc (by omega)
  generalize Go.Sort.order2 Go.Sort.ltInt d b1 c s1 = r2 at *
  obtain ⟨b2, c2, s2⟩ := r2
  simp only at hn2 g2 ⊢
  have hn3 := order2_bound d a1 b2 s2 d.size hn.1 hn2.1
  have g3 := order2_spec d a1 b2 s2 hn.1 hn2.1 (by omega)
  generalize Go.Sort.order2 Go.Sort.ltInt d a1 b2 s2 = r3 at *
  obtain ⟨a3, b3, s3⟩ := r3
  simp only at hn3 g3 ⊢
  simp -dsimp [↓callm_fn, slices_medianOrdered_int.ir]
  refine DC.mono g1 fun r H ⟨hr, hH⟩ => ?_
  subst hr hH
  simp -dsimp [↓callm_fn]
  refine DC.mono g2 fun r H ⟨hr, hH⟩ => ?_
  subst hr hH
  simp -dsimp [↓callm_fn]
  refine DC.mono g3 fun r H ⟨hr, hH⟩ => ?_
  subst hr hH
  simp -dsimp [slices_medianOrdered_int.rs]

theorem median_bound (d : Array Int) (a b c s n : Nat) (ha : a < n) (hb : b < n) (hc : c < n) : (Go.Sort.median Go.Sort.ltInt d a b c s).1 < n ∧ (Go.Sort.median Go.Sort.ltInt d a b c s).2 ≤ s + 3 := by
  have h1 := order2_bound d a b s n ha hb
  unfold Go.Sort.median
  simp only
  generalize Go.Sort.order2 Go.Sort.ltInt d a b s = r1 at *
  have h2 := order2_bound d r1.2.1 c r1.2.2 n h1.2.1 hc
  generalize Go.Sort.order2 Go.Sort.ltInt d r1.2.1 c r1.2.2 = r2 at *
  have h3 := order2_bound d r1.1 r2.1 r2.2.2 n h1.1 h2.1
  generalize Go.Sort.order2 Go.Sort.ltInt d r1.1 r2.1 r2.2.2 = r3 at *
  exact ⟨h3.2.1, by omega⟩

theorem medianAdj_spec (d : Array Int) (a s : Nat) (h1 : 1 ≤ a) (ha : a + 1 < d.size) (hz : d.size ≤ 4611686018427387904) (hs : s ≤ 900) :
    DC Try.prog slices_medianAdjacentOrdered_int.id [dataV d.size, vi a, .ptr 1 1 0 0] [rowsO d, swO s] (fun r H => r = vi (Go.Sort.medianAdjacent Go.Sort.ltInt d a s).1 ∧ H = [rowsO d, swO (Go.Sort.medianAdjacent Go.Sort.ltInt d a s).2]) := by
  refine DC.of slices_medianAdjacentOrdered_int.ok (by simp) ?_
  have hw : IntKind.i64.wrap ((a : Int) + 1) = ((a + 1 : Nat) : Int) := by rw [wrap64] <;> omega
  have hw2 : IntKind.i64.wrap ((a : Int) - 1) = ((a - 1 : Nat) : Int) := by rw [wrap64] <;> omega
  have g := median_spec d (a - 1) a (a + 1) s (by omega) (by omega) ha hs
  unfold Go.Sort.medianAdjacent
  generalize Go.Sort.median Go.Sort.ltInt d (a - 1) a (a + 1) s = r at *
  obtain ⟨m, s'⟩ := r
  have e1 : ((a - 1 : Nat) : Int) = ((a - 1 : Nat) : Int) := rfl
  simp -dsimp [↓callm_fn, slices_medianAdjacentOrdered_int.ir, hw, hw2]
  refine DC.mono g fun r H ⟨hr, hH⟩ => ?_
  subst hr hH
  simp -dsimp [slices_medianAdjacentOrdered_int.rs]
end Go.Abs.G

namespace Go.Abs.G
open Go.Proofs
set_option linter.unusedVariables false
set_option linter.unusedSimpArgs false

def hintN : Go.Sort.Hint → Int
  | .unknown => 0
  | .increasing => 1
  | .decreasing => 2

theorem medianAdj_bound (d : Array Int) (a s n : Nat) (h1 : 1 ≤ a) (ha : a + 1 < n) : (Go.Sort.medianAdjacent Go.Sort.ltInt d a s).1 < n ∧ (Go.Sort.medianAdjacent Go.Sort.ltInt d a s).2 ≤ s + 3 :=
  median_bound d (a - 1) a (a + 1) s n (by omega) (by omega) ha

theorem choosePivot_spec (d : Array Int) (a b : Nat) (hab : a + 12 < b) (hb : b ≤ d.size) (hz : d.size ≤ 4611686018427387904) :
    DC Try.prog slices_choosePivotOrdered_int.id [dataV d.size, vi a, vi b] [rowsO d] (fun r H => r = .tup [vi (Go.Sort.choosePivot Go.Sort.ltInt d a b).1, vi (hintN (Go.Sort.choosePivot Go.Sort.ltInt d a b).2)] ∧ ∃ o, H = [rowsO d, o]) := by
  refine DC.of slices_choosePivotOrdered_int.ok (by simp) ?_
  unfold slices_choosePivotOrdered_int.ir
  obtain ⟨l, hl⟩ : ∃ l, l = b - a := ⟨_, rfl⟩
  have w0 : IntKind.i64.wrap ((b : Int) - a) = (l : Int) := by rw [wrap64] <;> omega
  have y0 : IntKind.i64.wrap ((l : Int) / 4) = (l : Int) / 4 := by rw [wrap64] <;> omega
  have y2 : IntKind.i64.wrap ((l : Int) / 4 * 2) = (l : Int) / 4 * 2 := by rw [wrap64] <;> omega
  have y3 : IntKind.i64.wrap ((l : Int) / 4 * 3) = (l : Int) / 4 * 3 := by rw [wrap64] <;> omega
  have x1 : IntKind.i64.wrap ((a : Int) + (l : Int) / 4) = (a : Int) + (l : Int) / 4 := by rw [wrap64] <;> omega
  have x2 : IntKind.i64.wrap ((a : Int) + (l : Int) / 4 * 2) = (a : Int) + (l : Int) / 4 * 2 := by rw [wrap64] <;> omega
  have x3 : IntKind.i64.wrap ((a : Int) + (l : Int) / 4 * 3) = (a : Int) + (l : Int) / 4 * 3 := by rw [wrap64] <;> omega
  refine vc_cut (fun s => gt s.sl 0 = dataV d.size ∧ gt s.sl 1 = vi a ∧ gt s.sl 2 = vi b ∧ s.hp = [rowsO d]) (by simp -dsimp) ?_
  rintro ⟨sl, hp, bs⟩ ⟨h0, h1, h2, rfl⟩
  refine vc_cut (fun s => gt s.sl 0 = dataV d.size ∧ gt s.sl 1 = vi a ∧ gt s.sl 8 = vi l ∧ s.hp = [rowsO d]) (by simp -dsimp [h0, h1, h2, w0]) ?_
  rintro ⟨sl, hp, bs⟩ ⟨h0, h1, h8, rfl⟩
  refine vc_cut (fun s => gt s.sl 0 = dataV d.size ∧ gt s.sl 1 = vi a ∧ gt s.sl 8 = vi l ∧ gt s.sl 9 = .ptr 1 1 0 0 ∧ s.hp = [rowsO d, swO 0]) (by simp -dsimp [h0, h1, h8]) ?_
  rintro ⟨sl, hp, bs⟩ ⟨h0, h1, h8, h9, rfl⟩
  refine vc_cut (fun s => gt s.sl 0 = dataV d.size ∧ gt s.sl 1 = vi a ∧ gt s.sl 8 = vi l ∧ gt s.sl 9 = .ptr 1 1 0 0 ∧ gt s.sl 10 = vi (a + l / 4 * 1 : Nat) ∧ s.hp = [rowsO d, swO 0]) (by simp -dsimp [h0, h1, h8, h9, y0, x1]) ?_
  rintro ⟨sl, hp, bs⟩ ⟨h0, h1, h8, h9, h10, rfl⟩
  refine vc_cut (fun s => gt s.sl 0 = dataV d.size ∧ gt s.sl 1 = vi a ∧ gt s.sl 8 = vi l ∧ gt s.sl 9 = .ptr 1 1 0 0 ∧ gt s.sl 10 = vi (a + l / 4 * 1 : Nat) ∧ gt s.sl 11 = vi (a + l / 4 * 2 : Nat) ∧ s.hp = [rowsO d, swO 0]) (by simp -dsimp [h0, h1, h8, h9, h10, y0, y2, x2]) ?_
  rintro ⟨sl, hp, bs⟩ ⟨h0, h1, h8, h9, h10, h11, rfl⟩
  refine vc_cut (fun s => gt s.sl 0 = dataV d.size ∧ gt s.sl 8 = vi l ∧ gt s.sl 9 = .ptr 1 1 0 0 ∧ gt s.sl 10 = vi (a + l / 4 * 1 : Nat) ∧ gt s.sl 11 = vi (a + l / 4 * 2 : Nat) ∧ gt s.sl 12 = vi (a + l / 4 * 3 : Nat) ∧ s.hp = [rowsO d, swO 0]) (by simp -dsimp [h0, h1, h8, h9, h10, h11, y0, y3, x3]) ?_
  rintro ⟨sl, hp, bs⟩ ⟨h0, h8, h9, h10, h11, h12, rfl⟩
  have hc : Go.Sort.choosePivot Go.Sort.ltInt d a b = ((if l ≥ 50 then
        let ri := Go.Sort.medianAdjacent Go.Sort.ltInt d (a + l / 4 * 1) 0
        let rj := Go.Sort.medianAdjacent Go.Sort.ltInt d (a + l / 4 * 2) ri.2
        let rk := Go.Sort.medianAdjacent Go.Sort.ltInt d (a + l / 4 * 3) rj.2
        Go.Sort.median Go.Sort.ltInt d ri.1 rj.1 rk.1 rk.2
      else Go.Sort.median Go.Sort.ltInt d (a + l / 4 * 1) (a + l / 4 * 2) (a + l / 4 * 3) 0 : Nat × Nat).1, if (if l ≥ 50 then
        let ri := Go.Sort.medianAdjacent Go.Sort.ltInt d (a + l / 4 * 1) 0
        let rj := Go.Sort.medianAdjacent Go.Sort.ltInt d (a + l / 4 * 2) ri.2
        let rk := Go.Sort.medianAdjacent Go.Sort.ltInt d (a + l / 4 * 3) rj.2
        Go.Sort.median Go.Sort.ltInt d ri.1 rj.1 rk.1 rk.2
      else Go.Sort.median Go.Sort.ltInt d (a + l / 4 * 1) (a + l / 4 * 2) (a + l / 4 * 3) 0 : Nat × Nat).2 = 0 then .increasing else if (if l ≥ 50 then
        let ri := Go.Sort.medianAdjacent Go.Sort.ltInt d (a + l / 4 * 1) 0
        let rj := Go.Sort.medianAdjacent Go.Sort.ltInt d (a + l / 4 * 2) ri.2
        let rk := Go.Sort.medianAdjacent Go.Sort.ltInt d (a + l / 4 * 3) rj.2
        Go.Sort.median Go.Sort.ltInt d ri.1 rj.1 rk.1 rk.2
      else Go.Sort.median Go.Sort.ltInt d (a + l / 4 * 1) (a + l / 4 * 2) (a + l / 4 * 3) 0 : Nat × Nat).2 = 12 then .decreasing else .unknown) := by
    unfold Go.Sort.choosePivot
    simp only [← hl]
    rw [if_pos (show l ≥ 8 by omega)]
  rw [hc]
  have i8 : (8 : Int) ≤ l := by omega
  generalize hI : a + l / 4 * 1 = I at *
  generalize hJ : a + l / 4 * 2 = J at *
  generalize hK : a + l / 4 * 3 = K at *
  obtain ⟨r, hr⟩ : ∃ r : Nat × Nat, (if l ≥ 50 then
        let ri := Go.Sort.medianAdjacent Go.Sort.ltInt d I 0
        let rj := Go.Sort.medianAdjacent Go.Sort.ltInt d J ri.2
        let rk := Go.Sort.medianAdjacent Go.Sort.ltInt d K rj.2
        Go.Sort.median Go.Sort.ltInt d ri.1 rj.1 rk.1 rk.2
      else Go.Sort.median Go.Sort.ltInt d I J K 0) = r := ⟨_, rfl⟩
  rw [hr]
  refine vc_cut (fun s => gt s.sl 9 = .ptr 1 1 0 0 ∧ gt s.sl 11 = vi r.1 ∧ s.hp = [rowsO d, swO r.2]) ?_ ?_
  · by_cases h50 : 50 ≤ l
    · have i50 : (50 : Int) ≤ l := by omega
      rw [if_pos h50] at hr
      have b1 := medianAdj_bound d I 0 d.size (by omega) (by omega)
      have s1 := medianAdj_spec d I 0 (by omega) (by omega) hz (by omega)
      simp only at hr
      generalize Go.Sort.medianAdjacent Go.Sort.ltInt d I 0 = r1 at b1 s1 hr
      obtain ⟨I', t1⟩ := r1
      have b2 := medianAdj_bound d J t1 d.size (by omega) (by omega)
      have s2 := medianAdj_spec d J t1 (by omega) (by omega) hz (by simp at b1; omega)
      simp only at hr
      generalize Go.Sort.medianAdjacent Go.Sort.ltInt d J t1 = r2 at b2 s2 hr
      obtain ⟨J', t2⟩ := r2
      have b3 := medianAdj_bound d K t2 d.size (by omega) (by omega)
      have s3 := medianAdj_spec d K t2 (by omega) (by omega) hz (by simp at b1 b2; omega)
      simp only at hr
      generalize Go.Sort.medianAdjacent Go.Sort.ltInt d K t2 = r3 at b3 s3 hr
      obtain ⟨K', t3⟩ := r3
      simp only at b1 b2 b3 s1 s2 s3
      have s4 := median_spec d I' J' K' t3 b1.1 b2.1 b3.1 (by omega)
      simp only at hr
      rw [hr] at s4
      obtain ⟨M, t4⟩ := r
      simp only at s4
      simp -dsimp [↓callm_fn, h0, h8, h9, h10, h11, h12, i8, i50]
      refine DC.mono s1 fun r H ⟨hr, hH⟩ => ?_
      subst hr hH
      simp -dsimp [↓callm_fn, h0, h8, h9, h10, h11, h12]
      refine DC.mono s2 fun r H ⟨hr, hH⟩ => ?_
      subst hr hH
      simp -dsimp [↓callm_fn, h0, h8, h9, h10, h11, h12]
      refine DC.mono s3 fun r H ⟨hr, hH⟩ => ?_
      subst hr hH
      simp -dsimp [↓callm_fn, h0, h8, h9, h10, h11, h12]
      refine DC.mono s4 fun r H ⟨hr, hH⟩ => ?_
      subst hr hH
      simp -dsimp [h0, h8, h9, h10, h11, h12]
    · have i50 : ¬ (50 : Int) ≤ l := by omega
      rw [if_neg h50] at hr
      have s4 := median_spec d I J K 0 (by omega) (by omega) (by omega) (by omega)
      rw [hr] at s4
      obtain ⟨M, t4⟩ := r
      simp only at s4
      simp -dsimp [↓callm_fn, h0, h8, h9, h10, h11, h12, i8, i50]
      refine DC.mono s4 fun r H ⟨hr, hH⟩ => ?_
      subst hr hH
      simp -dsimp [h0, h8, h9, h10, h11, h12]
  rintro ⟨sl, hp, bs⟩ ⟨h9, h11, rfl⟩
  clear hr hc
  obtain ⟨M, t⟩ := r
  by_cases ht0 : t = 0
  · subst ht0
    simp -dsimp [h9, h11, slices_choosePivotOrdered_int.rs, hintN]
  · have i0 : ¬ (t : Int) = 0 := by omega
    by_cases ht : t = 12
    · subst ht
      simp -dsimp [h9, h11, slices_choosePivotOrdered_int.rs, hintN]
    · have i12 : ¬ (t : Int) = 12 := by omega
      simp -dsimp [h9, h11, slices_choosePivotOrdered_int.rs, hintN, ht0, i0, ht, i12]
end Go.Abs.G

namespace Go.Abs.G
open Go.Proofs
set_option linter.unusedVariables false
set_option linter.unusedSimpArgs false

@[simp] theorem ren_comp (f : Nat → Nat) : ((fun r => V.renL f r) ∘ fun n : Int => [V.a (Value.int IntKind.i64 n)]) = fun n => [V.a (Value.int IntKind.i64 n)] := by
  funext n; simp [V.renL, V.ren]

theorem siftDown_size (hi first : Nat) : ∀ (k root : Nat) (d : Array Int), hi - root ≤ k → (Go.Sort.siftDown Go.Sort.ltInt hi first root d).size = d.size := by
  intro k
  induction k with
  | zero =>
    intro root d h
    rw [Go.Sort.siftDown, dif_pos (by omega)]
  | succ k ih =>
    intro root d h
    rw [Go.Sort.siftDown]
    split
    · rfl
    · split
      · split
        · rfl
        · split
          · rw [ih _ _ (by omega), swp_size]
          · rfl
      · split
        · rfl
        · rw [ih _ _ (by omega), swp_size]

theorem sift_spec (d : Array Int) (lo hi first : Nat) (hf : first + hi ≤ d.size) (hlo : lo ≤ d.size) (hs : d.size ≤ 1152921504606846976) :
    DC Try.prog slices_siftDownOrdered_int.id [dataV d.size, vi lo, vi hi, vi first] [rowsO d] (fun r H => H = [rowsO (Go.Sort.siftDown Go.Sort.ltInt hi first lo d)]) := by
  refine DC.of slices_siftDownOrdered_int.ok (by simp) ?_
  obtain ⟨S, hS⟩ : ∃ S, Go.Sort.siftDown Go.Sort.ltInt hi first lo d = S := ⟨_, rfl⟩
  rw [hS]
  simp -dsimp [↓loop_f, slices_siftDownOrdered_int.ir, slices_siftDownOrdered_int.rs]
  refine WI.loop 1 (by simp) (fun s => ∃ (root : Nat) (d' : Array Int), root ≤ d.size ∧ d'.size = d.size ∧ gt s.sl 0 = dataV d.size ∧ gt s.sl 2 = vi hi ∧ gt s.sl 3 = vi first ∧ gt s.sl 8 = vi root ∧ s.hp = [rowsO d'] ∧ S = Go.Sort.siftDown Go.Sort.ltInt hi first root d') (fun s => (hi - (gt s.sl 8).num).toNat) ?_ ?_
  · exact ⟨lo, d, hlo, rfl, by simp, by simp, by simp, by simp, rfl, hS.symm⟩
  · rintro ⟨sl, hp, bs⟩ ⟨root, d', hroot, hd, h0, h2, h3, h8, rfl, he⟩
    have g8 := h8
    rw [Go.Sort.siftDown] at he
    have w1 : IntKind.i64.wrap (2 * (root : Int)) = ((2 * root : Nat) : Int) := by rw [wrap64] <;> omega
    have w2 : IntKind.i64.wrap (2 * (root : Int) + 1) = ((2 * root + 1 : Nat) : Int) := by rw [wrap64] <;> omega
    unfold slices_siftDownOrdered_int.b0
    refine vc_block_of (vc_cut (fun s => gt s.sl 0 = dataV d.size ∧ gt s.sl 2 = vi hi ∧ gt s.sl 3 = vi first ∧ gt s.sl 8 = vi root ∧ gt s.sl 9 = vi (2 * root + 1 : Nat) ∧ s.hp = [rowsO d']) (by simp -dsimp [h0, h2, h3, h8, w1, w2]) ?_)
    rintro ⟨sl, hp, bs⟩ ⟨h0, h2, h3, h8, h9, rfl⟩
    by_cases hge : 2 * root + 1 ≥ hi
    · rw [dif_pos hge] at he
      have i1 : (hi : Int) ≤ 2 * (root : Int) + 1 := by omega
      simp -dsimp [h0, h2, h3, h8, h9, i1, he]
    rw [dif_neg hge] at he
    have i1 : ¬ (hi : Int) ≤ 2 * (root : Int) + 1 := by omega
    refine vc_cut (fun s => gt s.sl 0 = dataV d.size ∧ gt s.sl 2 = vi hi ∧ gt s.sl 3 = vi first ∧ gt s.sl 8 = vi root ∧ gt s.sl 9 = vi (2 * root + 1 : Nat) ∧ s.hp = [rowsO d']) (by simp -dsimp [h0, h2, h3, h8, h9, i1]) ?_
    rintro ⟨sl, hp, bs⟩ ⟨h0, h2, h3, h8, h9, rfl⟩
    have k1 : first + (2 * root + 1) < d'.size := by omega
    have k0 : first + root < d'.size := by omega
    -- which child
    refine vc_cut (fun s => gt s.sl 0 = dataV d.size ∧ gt s.sl 2 = vi hi ∧ gt s.sl 3 = vi first ∧ gt s.sl 8 = vi root ∧ (∃ c : Nat, gt s.sl 9 = vi c ∧ root < c ∧ c < hi ∧ S = (if (!Go.Sort.ltInt d'[first + root]! d'[first + c]!) = true then d' else Go.Sort.siftDown Go.Sort.ltInt hi first c (Go.Sort.swp d' (first + root) (first + c)))) ∧ s.hp = [rowsO d']) ?_ ?_
    · have w3 : IntKind.i64.wrap (2 * (root : Int) + 1 + 1) = ((2 * root + 2 : Nat) : Int) := by rw [wrap64] <;> omega
      by_cases h2lt : 2 * root + 1 + 1 < hi
      · have i2 : 2 * (root : Int) + 2 < hi := by omega
        have k2 : first + (2 * root + 1) + 1 < d'.size := by omega
        have k1' : first + (2 * root + 1) < d.size := by omega
        have k2' : first + (2 * root + 1) + 1 < d.size := by omega
        obtain ⟨p, hp⟩ : ∃ p : Nat, first + (2 * root + 1) = p := ⟨_, rfl⟩
        rw [hp] at k2 k1' k2' k1 he
        have w4 : IntKind.i64.wrap ((first : Int) + (2 * (root : Int) + 1)) = (p : Int) := by rw [wrap64] <;> omega
        have w5 : IntKind.i64.wrap ((p : Int) + 1) = ((p + 1 : Nat) : Int) := by rw [wrap64] <;> omega
        have k5 : (p : Int) + 1 < d.size := by omega
        have k6 : (0 : Int) ≤ (p : Int) + 1 := by omega
        rw [get_bang d' k1, get_bang d' k2] at he
        simp -dsimp [↓call_f, h0, h2, h3, h8, h9, hd, w3, i2, w4, w5, k1', k2', k5, k6]
        refine (less_spec d'[p] d'[p + 1]).use ?_
        have wc : IntKind.i64.wrap (2 * (root : Int) + 1 + 1) = 2 * (root : Int) + 2 := by rw [wrap64] <;> omega
        by_cases hlt : Go.Sort.ltInt d'[p] d'[p + 1] = true
        · rw [hlt, if_pos (by simp; omega)] at he
          simp -dsimp [hlt, h0, h2, h3, h8, h9]
          refine ⟨2 * root + 2, by omega, by omega, by omega, ?_⟩
          rw [dif_pos (show 2 * root + 2 < hi by omega)] at he
          rw [he]
          cases Go.Sort.ltInt d'[first + root]! d'[first + (2 * root + 2)]! <;> rfl
        · have hlt : Go.Sort.ltInt d'[p] d'[p + 1] = false := by simpa using hlt
          rw [hlt, if_neg (by simp)] at he
          simp -dsimp [hlt, h0, h2, h3, h8, h9]
          refine ⟨2 * root + 1, by omega, by omega, by omega, ?_⟩
          rw [he, hp, get_bang d' k1]
          cases Go.Sort.ltInt d'[first + root]! d'[p] <;> rfl
      · have i2 : ¬ 2 * (root : Int) + 2 < hi := by omega
        rw [if_neg (by simp; omega)] at he
        simp -dsimp [↓call_f, h0, h2, h3, h8, h9, w3, i2]
        refine ⟨2 * root + 1, by omega, by omega, by omega, ?_⟩
        rw [he]
        cases Go.Sort.ltInt d'[first + root]! d'[first + (2 * root + 1)]! <;> rfl
    clear h0 h2 h3 h8 h9
    rintro ⟨sl, hp, bs⟩ ⟨h0, h2, h3, h8, ⟨c, h9, hc1, hc2, he⟩, rfl⟩
    have k3 : first + c < d'.size := by omega
    have hne : ¬ first + root = first + c := by omega
    obtain ⟨p, hp⟩ : ∃ p : Nat, first + root = p := ⟨_, rfl⟩
    obtain ⟨q, hq⟩ : ∃ q : Nat, first + c = q := ⟨_, rfl⟩
    rw [hp] at k0 hne he
    rw [hq] at k3 hne he
    have w6 : IntKind.i64.wrap ((first : Int) + root) = (p : Int) := by rw [wrap64] <;> omega
    have w7 : IntKind.i64.wrap ((first : Int) + c) = (q : Int) := by rw [wrap64] <;> omega
    have k3' : q < d.size := by omega
    have k0' : p < d.size := by omega
    have hsw := swp_rows d' k0 k3
    rw [get_bang d' k0, get_bang d' k3] at he
    simp -dsimp [↓call_f, h0, h2, h3, h8, h9, hd, w6, w7, k0', k3']
    refine (less_spec d'[p] d'[q]).use ?_
    by_cases hlt : Go.Sort.ltInt d'[p] d'[q] = true
    · rw [hlt] at he
      simp -dsimp [hlt, h0, h2, h3, h8, h9, hd, w6, w7, k0', k3', hne, List.getElem_set, g8]
      exact ⟨⟨c, by omega, Go.Sort.swp d' p q, by rw [swp_size]; exact hd, rfl, hsw, by simpa using he⟩, by omega⟩
    · have hlt : Go.Sort.ltInt d'[p] d'[q] = false := by simpa using hlt
      rw [hlt] at he
      have he : S = d' := by simpa using he
      simp -dsimp [hlt, h0, h2, h3, h8, h9, he]

theorem heapBuild_size (hi first : Nat) : ∀ (k : Nat) (d : Array Int), (Go.Sort.heapBuild Go.Sort.ltInt hi first k d).size = d.size := by
  intro k
  induction k with
  | zero => intro d; rfl
  | succ k ih => intro d; simp only [Go.Sort.heapBuild]; rw [ih, siftDown_size hi first (hi - k) k d (Nat.le_refl _)]

set_option maxHeartbeats 1000000 in
theorem heap_spec (d : Array Int) (a b : Nat) (hab : a < b) (hb : b ≤ d.size) (hs : d.size ≤ 1152921504606846976) :
    DC Try.prog slices_heapSortOrdered_int.id [dataV d.size, vi a, vi b] [rowsO d] (fun r H => H = [rowsO (Go.Sort.heapSort Go.Sort.ltInt d a b)]) := by
  refine DC.of slices_heapSortOrdered_int.ok (by simp) ?_
  obtain ⟨l, hl⟩ : ∃ l, b - a = l := ⟨_, rfl⟩
  obtain ⟨S, hS⟩ : ∃ S, Go.Sort.heapSort Go.Sort.ltInt d a b = S := ⟨_, rfl⟩
  rw [hS]
  unfold Go.Sort.heapSort at hS
  rw [hl] at hS
  have w0 : IntKind.i64.wrap ((b : Int) - a) = (l : Int) := by rw [wrap64] <;> omega
  have w1 : IntKind.i64.wrap ((l : Int) - 1) = ((l - 1 : Nat) : Int) := by rw [wrap64] <;> omega
  have w2 : IntKind.i64.wrap (((l - 1 : Nat) : Int) / 2) = (((l - 1) / 2 : Nat) : Int) := by
    rw [wrap64] <;> omega
  unfold slices_heapSortOrdered_int.ir
  refine vc_cut (fun s => gt s.sl 0 = dataV d.size ∧ gt s.sl 1 = vi a ∧ gt s.sl 2 = vi b ∧ gt s.sl 6 = vi a ∧ s.hp = [rowsO d]) (by simp -dsimp) ?_
  rintro ⟨sl, hp, bs⟩ ⟨h0, h1, h2, h6, rfl⟩
  refine vc_cut (fun s => gt s.sl 0 = dataV d.size ∧ gt s.sl 1 = vi a ∧ gt s.sl 2 = vi b ∧ gt s.sl 6 = vi a ∧ gt s.sl 7 = vi 0 ∧ s.hp = [rowsO d]) (by simp -dsimp [h0, h1, h2, h6]) ?_
  rintro ⟨sl, hp, bs⟩ ⟨h0, h1, h2, h6, h7, rfl⟩
  refine vc_cut (fun s => gt s.sl 0 = dataV d.size ∧ gt s.sl 6 = vi a ∧ gt s.sl 7 = vi 0 ∧ gt s.sl 8 = vi l ∧ s.hp = [rowsO d]) (by simp -dsimp [h0, h1, h2, h6, h7, w0]) ?_
  rintro ⟨sl, hp, bs⟩ ⟨h0, h6, h7, h8, rfl⟩
  obtain ⟨m, hm⟩ : ∃ m, l - 1 = m := ⟨_, rfl⟩
  obtain ⟨k, hk⟩ : ∃ k, m / 2 = k := ⟨_, rfl⟩
  rw [hm] at w1 w2 hS
  rw [hk] at w2 hS
  obtain ⟨B, hB⟩ : ∃ B, Go.Sort.heapBuild Go.Sort.ltInt l a (k + 1) d = B := ⟨_, rfl⟩
  rw [hB] at hS
  have hBs : B.size = d.size := by rw [← hB, heapBuild_size]
  refine vc_cut (fun s => gt s.sl 0 = dataV d.size ∧ gt s.sl 6 = vi a ∧ gt s.sl 7 = vi 0 ∧ gt s.sl 8 = vi l ∧ s.hp = [rowsO B]) ?_ ?_
  · simp -dsimp [↓loop_f, h0, h6, h7, h8, w1, w2]
    refine WI.mono (Q := fun e s => e = .exit 0 ∧ gt s.sl 0 = dataV d.size ∧ gt s.sl 6 = vi a ∧ gt s.sl 7 = vi 0 ∧ gt s.sl 8 = vi l ∧ s.hp = [rowsO B]) (WI.loop 1 (by simp) (fun s => ∃ (r : Nat) (d' : Array Int), r ≤ k + 1 ∧ d'.size = d.size ∧ gt s.sl 0 = dataV d.size ∧ gt s.sl 6 = vi a ∧ gt s.sl 7 = vi 0 ∧ gt s.sl 8 = vi l ∧ gt s.sl 9 = vi ((r : Int) - 1) ∧ s.hp = [rowsO d'] ∧ B = Go.Sort.heapBuild Go.Sort.ltInt l a r d') (fun s => ((gt s.sl 9).num + 1).toNat) ?_ ?_) ?_
    · exact ⟨k + 1, d, Nat.le_refl _, rfl, by simp, by simp, by simp, by simp, by simp, rfl, hB.symm⟩
    · clear h0 h6 h7 h8
      rintro ⟨sl, hp, bs⟩ ⟨r, d', hr, hd, h0, h6, h7, h8, h9, rfl, he⟩
      cases r with
      | zero =>
        have he : B = d' := he
        have e9 : ((0 : Nat) : Int) - 1 = -1 := rfl
        rw [e9] at h9
        simp -dsimp [slices_heapSortOrdered_int.b0, h0, h6, h7, h8, h9, he]
      | succ r =>
        have e9 : ((r + 1 : Nat) : Int) - 1 = (r : Int) := by omega
        rw [e9] at h9
        have hw : IntKind.i64.wrap ((r : Int) - 1) = (r : Int) - 1 := by rw [wrap64] <;> omega
        have hsp := sift_spec d' r l a (by omega) (by omega) (by omega)
        rw [hd] at hsp
        simp -dsimp [↓callm_fn, slices_heapSortOrdered_int.b0, h0, h6, h7, h8, h9]
        refine DC.mono hsp fun _ H hH => ?_
        subst hH
        simp -dsimp [h0, h6, h7, h8, h9, hw]
        exact ⟨⟨r, by omega, Go.Sort.siftDown Go.Sort.ltInt l a r d', by rw [siftDown_size l a (l - r) r d' (Nat.le_refl _)]; exact hd, rfl, rfl, he⟩, by omega⟩
    · rintro e ⟨sl, hp, bs⟩ ⟨rfl, h0, h6, h7, h8, rfl⟩
      simp [h0, h6, h7, h8]
  clear h0 h6 h7 h8
  rintro ⟨sl, hp, bs⟩ ⟨h0, h6, h7, h8, rfl⟩
  simp -dsimp [↓loop_f, h0, h6, h7, h8, w1]
  refine WI.mono (Q := fun e s => e = .exit 2 ∧ s.hp = [rowsO S]) (WI.loop 1 (by simp) (fun s => ∃ (r : Nat) (d' : Array Int), r ≤ l ∧ d'.size = d.size ∧ gt s.sl 0 = dataV d.size ∧ gt s.sl 6 = vi a ∧ gt s.sl 7 = vi 0 ∧ gt s.sl 10 = vi ((r : Int) - 1) ∧ s.hp = [rowsO d'] ∧ S = Go.Sort.heapPop Go.Sort.ltInt a r d') (fun s => ((gt s.sl 10).num + 1).toNat) ?_ ?_) ?_
  · exact ⟨l, B, Nat.le_refl _, hBs, by simp, by simp, by simp, by simp; omega, rfl, hS.symm⟩
  · clear h0 h6 h7 h8
    rintro ⟨sl, hp, bs⟩ ⟨r, d', hr, hd, h0, h6, h7, h9, rfl, he⟩
    cases r with
    | zero =>
      have he : S = d' := he
      have e9 : ((0 : Nat) : Int) - 1 = -1 := rfl
      rw [e9] at h9
      simp -dsimp [slices_heapSortOrdered_int.b1, h0, h6, h7, h9, he]
    | succ r =>
      have e9 : ((r + 1 : Nat) : Int) - 1 = (r : Int) := by omega
      rw [e9] at h9
      obtain ⟨q, hq⟩ : ∃ q, a + r = q := ⟨_, rfl⟩
      have he : S = Go.Sort.heapPop Go.Sort.ltInt a r (Go.Sort.siftDown Go.Sort.ltInt r a 0 (Go.Sort.swp d' a (a + r))) := he
      rw [hq] at he
      have hw : IntKind.i64.wrap ((r : Int) - 1) = (r : Int) - 1 := by rw [wrap64] <;> omega
      have hwq : IntKind.i64.wrap ((a : Int) + r) = (q : Int) := by rw [wrap64] <;> omega
      have ka : a < d'.size := by omega
      have kq : q < d'.size := by omega
      have ka' : a < d.size := by omega
      have kq' : q < d.size := by omega
      have hsw := swp_rows d' ka kq
      have hrows : rowsO (Go.Sort.swp d' a q) = .mem false [] (((d'.toList.map fun n => [V.a (.int .i64 n)]).set a [V.a (.int .i64 d'[q])]).set q [V.a (.int .i64 d'[a])]) := by rw [hsw]
      have hsp := sift_spec (Go.Sort.swp d' a q) 0 r a (by rw [swp_size]; omega) (by omega) (by rw [swp_size]; omega)
      obtain ⟨D, hD⟩ : ∃ D, Go.Sort.siftDown Go.Sort.ltInt r a 0 (Go.Sort.swp d' a q) = D := ⟨_, rfl⟩
      have hDs : D.size = d.size := by rw [← hD, siftDown_size r a (r - 0) 0 _ (Nat.le_refl _), swp_size]; exact hd
      rw [hD] at he hsp
      have h00 : ((0 : Nat) : Int) = 0 := rfl
      rw [swp_size, hd, hrows, h00] at hsp
      by_cases haq : a = q
      · have hrr : r = 0 := by omega
        clear hrows hsw hD
        subst haq
        simp only [List.set_set] at hsp
        simp -dsimp [↓callm_fn, slices_heapSortOrdered_int.b1, h0, h6, h7, h9, hd, hwq, ka', kq', List.getElem_set]
        refine DC.mono hsp fun _ H hH => ?_
        subst hH
        simp -dsimp [h0, h6, h7, h9, hw, hd, hwq, ka', kq', List.getElem_set]
        exact ⟨⟨r, by omega, D, hDs, rfl, rfl, he⟩, by omega⟩
      · clear hrows hsw hD
        simp -dsimp [↓callm_fn, slices_heapSortOrdered_int.b1, h0, h6, h7, h9, hd, hwq, ka', kq', haq, List.getElem_set]
        refine DC.mono hsp fun _ H hH => ?_
        subst hH
        simp -dsimp [h0, h6, h7, h9, hw, hd, hwq, ka', kq', haq, List.getElem_set]
        exact ⟨⟨r, by omega, D, hDs, rfl, rfl, he⟩, by omega⟩
  · rintro e ⟨sl, hp, bs⟩ ⟨rfl, rfl⟩
    simp [slices_heapSortOrdered_int.rs]
end Go.Abs.G

namespace Go.Abs.G
open Go.Proofs
set_option linter.unusedVariables false
set_option linter.unusedSimpArgs false

theorem part_up0 {n a i j : Nat} (hs : n ≤ 1152921504606846976) (ha : a < n) (hj : j < n) (hi : i ≤ j + 1) (d : Array Int) (hd : d.size = n) (Q : Ex → St → Prop) (sl : Sl) (bs : Nat)
    (h0 : gt sl 0 = dataV n) (h1 : gt sl 1 = vi a) (h10 : gt sl 10 = vi i) (h11 : gt sl 11 = vi j)
    (hq : ∀ s, gt s.sl 0 = dataV n → gt s.sl 1 = vi a → gt s.sl 10 = vi (Go.Sort.scanUp (fun x => Go.Sort.ltInt x d[a]!) d j i : Nat) → gt s.sl 11 = vi j → s.hp = [rowsO d] → Q (.exit 0) s) :
    WI Try.prog (.loop slices_partitionOrdered_int.b0) Q ⟨sl, [rowsO d], bs⟩ := by
  obtain ⟨S, hS⟩ : ∃ S, Go.Sort.scanUp (fun x => Go.Sort.ltInt x d[a]!) d j i = S := ⟨_, rfl⟩
  rw [hS] at hq
  refine WI.loop 1 (by simp) (fun s => ∃ k : Nat, k ≤ j + 1 ∧ gt s.sl 0 = dataV n ∧ gt s.sl 1 = vi a ∧ gt s.sl 10 = vi k ∧ gt s.sl 11 = vi j ∧ s.hp = [rowsO d] ∧ S = Go.Sort.scanUp (fun x => Go.Sort.ltInt x d[a]!) d j k) (fun s => (j + 1 - (gt s.sl 10).num).toNat) ?_ ?_
  · exact ⟨i, hi, h0, h1, h10, h11, rfl, hS.symm⟩
  · clear h0 h1 h10 h11
    rintro ⟨sl, hp, bs⟩ ⟨k, hk, h0, h1, h10, h11, rfl, he⟩
    rw [Go.Sort.scanUp] at he
    by_cases hkj : k ≤ j
    · have kk : k < d.size := by omega
      have ka : a < d.size := by omega
      have kk' : k < n := by omega
      have hkj' : (k : Int) ≤ j := by omega
      have hw : IntKind.i64.wrap ((k : Int) + 1) = ((k + 1 : Nat) : Int) := by rw [wrap64] <;> omega
      rw [get_bang d kk, get_bang d ka] at he
      simp -dsimp [↓call_f, slices_partitionOrdered_int.b0, h0, h1, h10, h11, hkj, hkj', kk', ha, hd]
      refine (less_spec d[k] d[a]).use ?_
      by_cases hlt : Go.Sort.ltInt d[k] d[a] = true
      · simp only [hlt] at he
        rw [if_pos (by simp; omega)] at he
        simp -dsimp [hlt, h0, h1, h10, h11, hw]
        exact ⟨⟨k + 1, by omega, by omega, he⟩, by omega⟩
      · have hlt : Go.Sort.ltInt d[k] d[a] = false := by simpa using hlt
        simp only [hlt] at he
        rw [if_neg (by simp)] at he
        simp -dsimp [hlt, h0, h1, h10, h11]
        exact hq _ (by simp) (by simp) (by simp [he]) (by simp) (by simp)
    · have hkj' : ¬ (k : Int) ≤ j := by omega
      rw [if_neg (by simp; omega)] at he
      simp -dsimp [slices_partitionOrdered_int.b0, h0, h1, h10, h11, hkj, hkj']
      exact hq _ (by simp) (by simp) (by simp [he]) (by simp) (by simp)

theorem part_up3 {n a i j : Nat} (hs : n ≤ 1152921504606846976) (ha : a < n) (hj : j < n) (hi : i ≤ j + 1) (d : Array Int) (hd : d.size = n) (Q : Ex → St → Prop) (sl : Sl) (bs : Nat)
    (h0 : gt sl 0 = dataV n) (h1 : gt sl 1 = vi a) (h10 : gt sl 10 = vi i) (h11 : gt sl 11 = vi j)
    (hq : ∀ s, gt s.sl 0 = dataV n → gt s.sl 1 = vi a → gt s.sl 10 = vi (Go.Sort.scanUp (fun x => Go.Sort.ltInt x d[a]!) d j i : Nat) → gt s.sl 11 = vi j → s.hp = [rowsO d] → Q (.exit 6) s) :
    WI Try.prog (.loop slices_partitionOrdered_int.b3) Q ⟨sl, [rowsO d], bs⟩ := by
  obtain ⟨S, hS⟩ : ∃ S, Go.Sort.scanUp (fun x => Go.Sort.ltInt x d[a]!) d j i = S := ⟨_, rfl⟩
  rw [hS] at hq
  refine WI.loop 1 (by simp) (fun s => ∃ k : Nat, k ≤ j + 1 ∧ gt s.sl 0 = dataV n ∧ gt s.sl 1 = vi a ∧ gt s.sl 10 = vi k ∧ gt s.sl 11 = vi j ∧ s.hp = [rowsO d] ∧ S = Go.Sort.scanUp (fun x => Go.Sort.ltInt x d[a]!) d j k) (fun s => (j + 1 - (gt s.sl 10).num).toNat) ?_ ?_
  · exact ⟨i, hi, h0, h1, h10, h11, rfl, hS.symm⟩
  · clear h0 h1 h10 h11
    rintro ⟨sl, hp, bs⟩ ⟨k, hk, h0, h1, h10, h11, rfl, he⟩
    rw [Go.Sort.scanUp] at he
    by_cases hkj : k ≤ j
    · have kk : k < d.size := by omega
      have ka : a < d.size := by omega
      have kk' : k < n := by omega
      have hkj' : (k : Int) ≤ j := by omega
      have hw : IntKind.i64.wrap ((k : Int) + 1) = ((k + 1 : Nat) : Int) := by rw [wrap64] <;> omega
      rw [get_bang d kk, get_bang d ka] at he
      simp -dsimp [↓call_f, slices_partitionOrdered_int.b3, h0, h1, h10, h11, hkj, hkj', kk', ha, hd]
      refine (less_spec d[k] d[a]).use ?_
      by_cases hlt : Go.Sort.ltInt d[k] d[a] = true
      · simp only [hlt] at he
        rw [if_pos (by simp; omega)] at he
        simp -dsimp [hlt, h0, h1, h10, h11, hw]
        exact ⟨⟨k + 1, by omega, by omega, he⟩, by omega⟩
      · have hlt : Go.Sort.ltInt d[k] d[a] = false := by simpa using hlt
        simp only [hlt] at he
        rw [if_neg (by simp)] at he
        simp -dsimp [hlt, h0, h1, h10, h11]
        exact hq _ (by simp) (by simp) (by simp [he]) (by simp) (by simp)
    · have hkj' : ¬ (k : Int) ≤ j := by omega
      rw [if_neg (by simp; omega)] at he
      simp -dsimp [slices_partitionOrdered_int.b3, h0, h1, h10, h11, hkj, hkj']
      exact hq _ (by simp) (by simp) (by simp [he]) (by simp) (by simp)

theorem part_dn1 {n a i j : Nat} (hs : n ≤ 1152921504606846976) (ha : a < n) (hj : j < n) (hi : 1 ≤ i) (hin : i ≤ n) (d : Array Int) (hd : d.size = n) (Q : Ex → St → Prop) (sl : Sl) (bs : Nat)
    (h0 : gt sl 0 = dataV n) (h1 : gt sl 1 = vi a) (h10 : gt sl 10 = vi i) (h11 : gt sl 11 = vi j)
    (hq : ∀ s, gt s.sl 0 = dataV n → gt s.sl 1 = vi a → gt s.sl 10 = vi i → gt s.sl 11 = vi (Go.Sort.scanDown (fun x => !Go.Sort.ltInt x d[a]!) d i j : Nat) → s.hp = [rowsO d] → Q (.exit 2) s) :
    WI Try.prog (.loop slices_partitionOrdered_int.b1) Q ⟨sl, [rowsO d], bs⟩ := by
  obtain ⟨S, hS⟩ : ∃ S, Go.Sort.scanDown (fun x => !Go.Sort.ltInt x d[a]!) d i j = S := ⟨_, rfl⟩
  rw [hS] at hq
  refine WI.loop 1 (by simp) (fun s => ∃ k : Nat, k ≤ j ∧ gt s.sl 0 = dataV n ∧ gt s.sl 1 = vi a ∧ gt s.sl 10 = vi i ∧ gt s.sl 11 = vi k ∧ s.hp = [rowsO d] ∧ S = Go.Sort.scanDown (fun x => !Go.Sort.ltInt x d[a]!) d i k) (fun s => (gt s.sl 11).num.toNat) ?_ ?_
  · exact ⟨j, Nat.le_refl _, h0, h1, h10, h11, rfl, hS.symm⟩
  · clear h0 h1 h10 h11
    rintro ⟨sl, hp, bs⟩ ⟨k, hk, h0, h1, h10, h11, rfl, he⟩
    by_cases hkj : i ≤ k
    · obtain ⟨m, rfl⟩ : ∃ m, k = m + 1 := ⟨k - 1, by omega⟩
      rw [Go.Sort.scanDown] at he
      obtain ⟨q, hq'⟩ : ∃ q, m + 1 = q := ⟨_, rfl⟩
      rw [hq'] at he h11 hkj
      have kk : q < d.size := by omega
      have ka : a < d.size := by omega
      have kk' : q < n := by omega
      have hkj' : (i : Int) ≤ q := by omega
      have hw : IntKind.i64.wrap ((q : Int) - 1) = (m : Int) := by rw [wrap64] <;> omega
      rw [get_bang d kk, get_bang d ka] at he
      simp -dsimp [↓call_f, slices_partitionOrdered_int.b1, h0, h1, h10, h11, hkj, hkj', kk', ha, hd]
      refine (less_spec d[q] d[a]).use ?_
      by_cases hlt : Go.Sort.ltInt d[q] d[a] = true
      · simp only [hlt] at he
        rw [if_neg (by simp)] at he
        simp -dsimp [hlt, h0, h1, h10, h11]
        exact hq _ (by simp) (by simp) (by simp) (by simp [he]) (by simp)
      · have hlt : Go.Sort.ltInt d[q] d[a] = false := by simpa using hlt
        simp only [hlt] at he
        rw [if_pos (by simp; omega)] at he
        simp -dsimp [hlt, h0, h1, h10, h11, hw]
        exact ⟨⟨m, by omega, rfl, he⟩, by omega⟩
    · have hkj' : ¬ (i : Int) ≤ k := by omega
      have he : S = k := by
        rw [he]
        cases k with
        | zero => rfl
        | succ m => rw [Go.Sort.scanDown, if_neg (by simp; omega)]
      simp -dsimp [slices_partitionOrdered_int.b1, h0, h1, h10, h11, hkj, hkj']
      exact hq _ (by simp) (by simp) (by simp) (by simp [he]) (by simp)

theorem part_dn4 {n a i j : Nat} (hs : n ≤ 1152921504606846976) (ha : a < n) (hj : j < n) (hi : 1 ≤ i) (hin : i ≤ n) (d : Array Int) (hd : d.size = n) (Q : Ex → St → Prop) (sl : Sl) (bs : Nat)
    (h0 : gt sl 0 = dataV n) (h1 : gt sl 1 = vi a) (h10 : gt sl 10 = vi i) (h11 : gt sl 11 = vi j)
    (hq : ∀ s, gt s.sl 0 = dataV n → gt s.sl 1 = vi a → gt s.sl 10 = vi i → gt s.sl 11 = vi (Go.Sort.scanDown (fun x => !Go.Sort.ltInt x d[a]!) d i j : Nat) → s.hp = [rowsO d] → Q (.exit 8) s) :
    WI Try.prog (.loop slices_partitionOrdered_int.b4) Q ⟨sl, [rowsO d], bs⟩ := by
  obtain ⟨S, hS⟩ : ∃ S, Go.Sort.scanDown (fun x => !Go.Sort.ltInt x d[a]!) d i j = S := ⟨_, rfl⟩
  rw [hS] at hq
  refine WI.loop 1 (by simp) (fun s => ∃ k : Nat, k ≤ j ∧ gt s.sl 0 = dataV n ∧ gt s.sl 1 = vi a ∧ gt s.sl 10 = vi i ∧ gt s.sl 11 = vi k ∧ s.hp = [rowsO d] ∧ S = Go.Sort.scanDown (fun x => !Go.Sort.ltInt x d[a]!) d i k) (fun s => (gt s.sl 11).num.toNat) ?_ ?_
  · exact ⟨j, Nat.le_refl _, h0, h1, h10, h11, rfl, hS.symm⟩
  · clear h0 h1 h10 h11
    rintro ⟨sl, hp, bs⟩ ⟨k, hk, h0, h1, h10, h11, rfl, he⟩
    by_cases hkj : i ≤ k
    · obtain ⟨m, rfl⟩ : ∃ m, k = m + 1 := ⟨k - 1, by omega⟩
      rw [Go.Sort.scanDown] at he
      obtain ⟨q, hq'⟩ : ∃ q, m + 1 = q := ⟨_, rfl⟩
      rw [hq'] at he h11 hkj
      have kk : q < d.size := by omega
      have ka : a < d.size := by omega
      have kk' : q < n := by omega
      have hkj' : (i : Int) ≤ q := by omega
      have hw : IntKind.i64.wrap ((q : Int) - 1) = (m : Int) := by rw [wrap64] <;> omega
      rw [get_bang d kk, get_bang d ka] at he
      simp -dsimp [↓call_f, slices_partitionOrdered_int.b4, h0, h1, h10, h11, hkj, hkj', kk', ha, hd]
      refine (less_spec d[q] d[a]).use ?_
      by_cases hlt : Go.Sort.ltInt d[q] d[a] = true
      · simp only [hlt] at he
        rw [if_neg (by simp)] at he
        simp -dsimp [hlt, h0, h1, h10, h11]
        exact hq _ (by simp) (by simp) (by simp) (by simp [he]) (by simp)
      · have hlt : Go.Sort.ltInt d[q] d[a] = false := by simpa using hlt
        simp only [hlt] at he
        rw [if_pos (by simp; omega)] at he
        simp -dsimp [hlt, h0, h1, h10, h11, hw]
        exact ⟨⟨m, by omega, rfl, he⟩, by omega⟩
    · have hkj' : ¬ (i : Int) ≤ k := by omega
      have he : S = k := by
        rw [he]
        cases k with
        | zero => rfl
        | succ m => rw [Go.Sort.scanDown, if_neg (by simp; omega)]
      simp -dsimp [slices_partitionOrdered_int.b4, h0, h1, h10, h11, hkj, hkj']
      exact hq _ (by simp) (by simp) (by simp) (by simp [he]) (by simp)

theorem peq_up {n a i j : Nat} (hs : n ≤ 1152921504606846976) (ha : a < n) (hj : j < n) (hi : i ≤ j + 1) (d : Array Int) (hd : d.size = n) (Q : Ex → St → Prop) (sl : Sl) (bs : Nat)
    (h0 : gt sl 0 = dataV n) (h1 : gt sl 1 = vi a) (h10 : gt sl 9 = vi i) (h11 : gt sl 10 = vi j)
    (hq : ∀ s, gt s.sl 0 = dataV n → gt s.sl 1 = vi a → gt s.sl 9 = vi (Go.Sort.scanUp (fun x => !Go.Sort.ltInt d[a]! x) d j i : Nat) → gt s.sl 10 = vi j → s.hp = [rowsO d] → Q (.exit 2) s) :
    WI Try.prog (.loop slices_partitionEqualOrdered_int.b1) Q ⟨sl, [rowsO d], bs⟩ := by
  obtain ⟨S, hS⟩ : ∃ S, Go.Sort.scanUp (fun x => !Go.Sort.ltInt d[a]! x) d j i = S := ⟨_, rfl⟩
  rw [hS] at hq
  refine WI.loop 1 (by simp) (fun s => ∃ k : Nat, k ≤ j + 1 ∧ gt s.sl 0 = dataV n ∧ gt s.sl 1 = vi a ∧ gt s.sl 9 = vi k ∧ gt s.sl 10 = vi j ∧ s.hp = [rowsO d] ∧ S = Go.Sort.scanUp (fun x => !Go.Sort.ltInt d[a]! x) d j k) (fun s => (j + 1 - (gt s.sl 9).num).toNat) ?_ ?_
  · exact ⟨i, hi, h0, h1, h10, h11, rfl, hS.symm⟩
  · clear h0 h1 h10 h11
    rintro ⟨sl, hp, bs⟩ ⟨k, hk, h0, h1, h10, h11, rfl, he⟩
    rw [Go.Sort.scanUp] at he
    by_cases hkj : k ≤ j
    · have kk : k < d.size := by omega
      have ka : a < d.size := by omega
      have kk' : k < n := by omega
      have hkj' : (k : Int) ≤ j := by omega
      have hw : IntKind.i64.wrap ((k : Int) + 1) = ((k + 1 : Nat) : Int) := by rw [wrap64] <;> omega
      rw [get_bang d kk, get_bang d ka] at he
      simp -dsimp [↓call_f, slices_partitionEqualOrdered_int.b1, h0, h1, h10, h11, hkj, hkj', kk', ha, hd]
      refine (less_spec d[a] d[k]).use ?_
      by_cases hlt : Go.Sort.ltInt d[a] d[k] = true
      · simp only [hlt] at he
        rw [if_neg (by simp)] at he
        simp -dsimp [hlt, h0, h1, h10, h11]
        exact hq _ (by simp) (by simp) (by simp [he]) (by simp) (by simp)
      · have hlt : Go.Sort.ltInt d[a] d[k] = false := by simpa using hlt
        simp only [hlt] at he
        rw [if_pos (by simp; omega)] at he
        simp -dsimp [hlt, h0, h1, h10, h11, hw]
        exact ⟨⟨k + 1, by omega, by omega, he⟩, by omega⟩
    · have hkj' : ¬ (k : Int) ≤ j := by omega
      rw [if_neg (by simp; omega)] at he
      simp -dsimp [slices_partitionEqualOrdered_int.b1, h0, h1, h10, h11, hkj, hkj']
      exact hq _ (by simp) (by simp) (by simp [he]) (by simp) (by simp)

theorem peq_dn {n a i j : Nat} (hs : n ≤ 1152921504606846976) (ha : a < n) (hj : j < n) (hi : 1 ≤ i) (hin : i ≤ n) (d : Array Int) (hd : d.size = n) (Q : Ex → St → Prop) (sl : Sl) (bs : Nat)
    (h0 : gt sl 0 = dataV n) (h1 : gt sl 1 = vi a) (h10 : gt sl 9 = vi i) (h11 : gt sl 10 = vi j)
    (hq : ∀ s, gt s.sl 0 = dataV n → gt s.sl 1 = vi a → gt s.sl 9 = vi i → gt s.sl 10 = vi (Go.Sort.scanDown (fun x => Go.Sort.ltInt d[a]! x) d i j : Nat) → s.hp = [rowsO d] → Q (.exit 4) s) :
    WI Try.prog (.loop slices_partitionEqualOrdered_int.b2) Q ⟨sl, [rowsO d], bs⟩ := by
  obtain ⟨S, hS⟩ : ∃ S, Go.Sort.scanDown (fun x => Go.Sort.ltInt d[a]! x) d i j = S := ⟨_, rfl⟩
  rw [hS] at hq
  refine WI.loop 1 (by simp) (fun s => ∃ k : Nat, k ≤ j ∧ gt s.sl 0 = dataV n ∧ gt s.sl 1 = vi a ∧ gt s.sl 9 = vi i ∧ gt s.sl 10 = vi k ∧ s.hp = [rowsO d] ∧ S = Go.Sort.scanDown (fun x => Go.Sort.ltInt d[a]! x) d i k) (fun s => (gt s.sl 10).num.toNat) ?_ ?_
  · exact ⟨j, Nat.le_refl _, h0, h1, h10, h11, rfl, hS.symm⟩
  · clear h0 h1 h10 h11
    rintro ⟨sl, hp, bs⟩ ⟨k, hk, h0, h1, h10, h11, rfl, he⟩
    by_cases hkj : i ≤ k
    · obtain ⟨m, rfl⟩ : ∃ m, k = m + 1 := ⟨k - 1, by omega⟩
      rw [Go.Sort.scanDown] at he
      obtain ⟨q, hq'⟩ : ∃ q, m + 1 = q := ⟨_, rfl⟩
      rw [hq'] at he h11 hkj
      have kk : q < d.size := by omega
      have ka : a < d.size := by omega
      have kk' : q < n := by omega
      have hkj' : (i : Int) ≤ q := by omega
      have hw : IntKind.i64.wrap ((q : Int) - 1) = (m : Int) := by rw [wrap64] <;> omega
      rw [get_bang d kk, get_bang d ka] at he
      simp -dsimp [↓call_f, slices_partitionEqualOrdered_int.b2, h0, h1, h10, h11, hkj, hkj', kk', ha, hd]
      refine (less_spec d[a] d[q]).use ?_
      by_cases hlt : Go.Sort.ltInt d[a] d[q] = true
      · simp only [hlt] at he
        rw [if_pos (by simp; omega)] at he
        simp -dsimp [hlt, h0, h1, h10, h11, hw]
        exact ⟨⟨m, by omega, rfl, he⟩, by omega⟩
      · have hlt : Go.Sort.ltInt d[a] d[q] = false := by simpa using hlt
        simp only [hlt] at he
        rw [if_neg (by simp)] at he
        simp -dsimp [hlt, h0, h1, h10, h11]
        exact hq _ (by simp) (by simp) (by simp) (by simp [he]) (by simp)
    · have hkj' : ¬ (i : Int) ≤ k := by omega
      have he : S = k := by
        rw [he]
        cases k with
        | zero => rfl
        | succ m => rw [Go.Sort.scanDown, if_neg (by simp; omega)]
      simp -dsimp [slices_partitionEqualOrdered_int.b2, h0, h1, h10, h11, hkj, hkj']
      exact hq _ (by simp) (by simp) (by simp) (by simp [he]) (by simp)

end Go.Abs.G

namespace Go.Abs.G
open Go.Proofs
set_option linter.unusedVariables false
set_option linter.unusedSimpArgs false

theorem scanUp_bound (p : Int → Bool) (d : Array Int) (j : Nat) : ∀ (k i : Nat), j + 1 - i ≤ k → i ≤ Go.Sort.scanUp p d j i ∧ (i ≤ j + 1 → Go.Sort.scanUp p d j i ≤ j + 1) := by
  intro k
  induction k with
  | zero =>
    intro i h
    rw [Go.Sort.scanUp, if_neg (by simp; omega)]
    exact ⟨Nat.le_refl _, fun h => h⟩
  | succ k ih =>
    intro i h
    rw [Go.Sort.scanUp]
    split
    · next hc =>
      simp at hc
      have := ih (i + 1) (by omega)
      exact ⟨by omega, fun _ => this.2 (by omega)⟩
    · exact ⟨Nat.le_refl _, fun h => h⟩

theorem scanDown_bound (p : Int → Bool) (d : Array Int) (i : Nat) : ∀ (j : Nat), Go.Sort.scanDown p d i j ≤ j ∧ (1 ≤ i → i ≤ j + 1 → i ≤ Go.Sort.scanDown p d i j + 1) := by
  intro j
  induction j with
  | zero => exact ⟨Nat.le_refl _, fun _ h => h⟩
  | succ j ih =>
    rw [Go.Sort.scanDown]
    split
    · next hc =>
      simp at hc
      exact ⟨by omega, fun h1 h2 => ih.2 h1 (by omega)⟩
    · exact ⟨Nat.le_refl _, fun _ h => h⟩

theorem scanUp_stop (p : Int → Bool) (d : Array Int) (j : Nat) : ∀ (k i : Nat), j + 1 - i ≤ k → Go.Sort.scanUp p d j i ≤ j → p d[Go.Sort.scanUp p d j i]! = false := by
  intro k
  induction k with
  | zero =>
    intro i h h2
    rw [Go.Sort.scanUp, if_neg (by simp; omega)] at h2
    omega
  | succ k ih =>
    intro i h h2
    rw [Go.Sort.scanUp] at h2 ⊢
    split
    · next hc =>
      rw [if_pos hc] at h2
      simp at hc
      exact ih (i + 1) (by omega) h2
    · next hc =>
      rw [if_neg hc] at h2
      simp only [Bool.and_eq_true, decide_eq_true_eq, not_and] at hc
      simpa using hc h2

theorem scanDown_stop (p : Int → Bool) (d : Array Int) (i : Nat) (hi : 1 ≤ i) : ∀ (j : Nat), i ≤ Go.Sort.scanDown p d i j → p d[Go.Sort.scanDown p d i j]! = false := by
  intro j
  induction j with
  | zero => intro h; simp [Go.Sort.scanDown] at h; omega
  | succ j ih =>
    intro h
    rw [Go.Sort.scanDown] at h ⊢
    split
    · next hc => rw [if_pos hc] at h; exact ih h
    · next hc =>
      rw [if_neg hc] at h
      simp only [Bool.and_eq_true, decide_eq_true_eq, not_and] at hc
      simpa using hc h

/-- The 'for' of partition. -/
theorem part_loop {n a i j : Nat} (hs : n ≤ 1152921504606846976) (ha : a < n) (hi : 1 ≤ i) (hj : j < n) (hij : i ≤ j + 1) (d : Array Int) (hd : d.size = n) (Q : Ex → St → Prop) (sl : Sl) (bs : Nat)
    (h0 : gt sl 0 = dataV n) (h1 : gt sl 1 = vi a) (h10 : gt sl 10 = vi i) (h11 : gt sl 11 = vi j)
    (hq : ∀ s, gt s.sl 0 = dataV n → gt s.sl 1 = vi a → gt s.sl 11 = vi (Go.Sort.partLoop Go.Sort.ltInt a i j d).1 → s.hp = [rowsO (Go.Sort.partLoop Go.Sort.ltInt a i j d).2] → Q (.exit 4) s) :
    WI Try.prog (.loop slices_partitionOrdered_int.b2) Q ⟨sl, [rowsO d], bs⟩ := by
  obtain ⟨S, hS⟩ : ∃ S, Go.Sort.partLoop Go.Sort.ltInt a i j d = S := ⟨_, rfl⟩
  rw [hS] at hq
  refine WI.loop 1 (by simp) (fun s => ∃ (x y : Nat) (d' : Array Int), 1 ≤ x ∧ y < n ∧ x ≤ y + 1 ∧ d'.size = n ∧ gt s.sl 0 = dataV n ∧ gt s.sl 1 = vi a ∧ gt s.sl 10 = vi x ∧ gt s.sl 11 = vi y ∧ s.hp = [rowsO d'] ∧ S = Go.Sort.partLoop Go.Sort.ltInt a x y d') (fun s => ((gt s.sl 11).num + 1 - (gt s.sl 10).num).toNat) ?_ ?_
  · exact ⟨i, j, d, hi, hj, hij, hd, h0, h1, h10, h11, rfl, hS.symm⟩
  · clear h0 h1 h10 h11
    rintro ⟨sl, hp, bs⟩ ⟨x, y, d', hx, hy, hxy, hd', h0, h1, h10, h11, rfl, he⟩
    have g10 := h10
    have g11 := h11
    rw [Go.Sort.partLoop] at he
    have bu := scanUp_bound (fun z => Go.Sort.ltInt z d'[a]!) d' y (y + 1 - x) x (Nat.le_refl _)
    unfold slices_partitionOrdered_int.b2
    refine vc_block_of ?_
    obtain ⟨i2, hi2⟩ : ∃ k, Go.Sort.scanUp (fun z => Go.Sort.ltInt z d'[a]!) d' y x = k := ⟨_, rfl⟩
    rw [hi2] at he bu
    have bd := scanDown_bound (fun z => !Go.Sort.ltInt z d'[a]!) d' i2 y
    obtain ⟨j2, hj2⟩ : ∃ k, Go.Sort.scanDown (fun z => !Go.Sort.ltInt z d'[a]!) d' i2 y = k := ⟨_, rfl⟩
    rw [hj2] at he bd
    have b1 := bu.2 hxy
    have b2 := bd.2 (by omega) b1
    refine vc_cut (fun s => gt s.sl 0 = dataV n ∧ gt s.sl 1 = vi a ∧ gt s.sl 10 = vi i2 ∧ gt s.sl 11 = vi y ∧ s.hp = [rowsO d']) (vc_block_of (part_up3 (i := x) (j := y) hs ha hy hxy d' hd' _ _ _ h0 h1 h10 h11 fun s q0 q1 q10 q11 qh => ?_)) ?_
    · rw [hi2] at q10
      exact ⟨q0, q1, q10, q11, qh⟩
    clear h0 h1 h10 h11
    rintro ⟨sl, hp, bs⟩ ⟨h0, h1, h10, h11, rfl⟩
    refine vc_cut (fun s => gt s.sl 0 = dataV n ∧ gt s.sl 1 = vi a ∧ gt s.sl 10 = vi i2 ∧ gt s.sl 11 = vi j2 ∧ s.hp = [rowsO d']) (vc_block_of (part_dn4 (i := i2) (j := y) hs ha hy (by omega) (by omega) d' hd' _ _ _ h0 h1 h10 h11 fun s q0 q1 q10 q11 qh => ?_)) ?_
    · rw [hj2] at q11
      exact ⟨q0, q1, q10, q11, qh⟩
    clear h0 h1 h10 h11
    rintro ⟨sl, hp, bs⟩ ⟨h0, h1, h10, h11, rfl⟩
    by_cases hgt : i2 > j2
    · rw [if_pos hgt] at he
      have hgt' : (j2 : Int) < i2 := by omega
      simp -dsimp [h0, h1, h10, h11, hgt']
      exact hq _ (by simp) (by simp) (by simp [he]) (by simp [he])
    · rw [if_neg hgt, dif_pos (by omega)] at he
      have hgt' : ¬ (j2 : Int) < i2 := by omega
      have k1 : i2 < d'.size := by omega
      have k2 : j2 < d'.size := by omega
      have k1' : i2 < n := by omega
      have k2' : j2 < n := by omega
      have hsw := swp_rows d' k1 k2
      have hwi : IntKind.i64.wrap ((i2 : Int) + 1) = ((i2 + 1 : Nat) : Int) := by rw [wrap64] <;> omega
      have hwj : IntKind.i64.wrap ((j2 : Int) - 1) = ((j2 - 1 : Nat) : Int) := by rw [wrap64] <;> omega
      have heq : ¬ i2 = j2 := by
        intro heq
        have t1 := scanUp_stop (fun z => Go.Sort.ltInt z d'[a]!) d' y (y + 1 - x) x (Nat.le_refl _) (by rw [hi2]; omega)
        have t2 := scanDown_stop (fun z => !Go.Sort.ltInt z d'[a]!) d' i2 (by omega) y (by rw [hj2]; omega)
        rw [hi2] at t1
        rw [hj2, ← heq] at t2
        rw [t1] at t2
        cases t2
      simp -dsimp [h0, h1, h10, h11, hgt', hd', k1', k2', heq, hwi, hwj, List.getElem_set, g10, g11]
      exact ⟨⟨i2 + 1, by omega, j2 - 1, by omega, by omega, Go.Sort.swp d' i2 j2, by rw [swp_size]; exact hd', by omega, rfl, hsw, he⟩, by omega⟩

theorem partLoop_bound (a : Nat) : ∀ (k i j : Nat) (d : Array Int), j + 1 - i ≤ k → (Go.Sort.partLoop Go.Sort.ltInt a i j d).2.size = d.size ∧ (Go.Sort.partLoop Go.Sort.ltInt a i j d).1 ≤ j := by
  intro k
  induction k with
  | zero =>
    intro i j d h
    rw [Go.Sort.partLoop]
    have bu := scanUp_bound (fun z => Go.Sort.ltInt z d[a]!) d j (j + 1 - i) i (Nat.le_refl _)
    have bd := scanDown_bound (fun z => !Go.Sort.ltInt z d[a]!) d (Go.Sort.scanUp (fun z => Go.Sort.ltInt z d[a]!) d j i) j
    split
    · exact ⟨rfl, bd.1⟩
    · split
      · omega
      · exact ⟨rfl, bd.1⟩
  | succ k ih =>
    intro i j d h
    rw [Go.Sort.partLoop]
    have bd := scanDown_bound (fun z => !Go.Sort.ltInt z d[a]!) d (Go.Sort.scanUp (fun z => Go.Sort.ltInt z d[a]!) d j i) j
    split
    · exact ⟨rfl, bd.1⟩
    · split
      · next hlt =>
        have := ih (Go.Sort.scanUp (fun z => Go.Sort.ltInt z d[a]!) d j i + 1) (Go.Sort.scanDown (fun z => !Go.Sort.ltInt z d[a]!) d (Go.Sort.scanUp (fun z => Go.Sort.ltInt z d[a]!) d j i) j - 1) (Go.Sort.swp d (Go.Sort.scanUp (fun z => Go.Sort.ltInt z d[a]!) d j i) (Go.Sort.scanDown (fun z => !Go.Sort.ltInt z d[a]!) d (Go.Sort.scanUp (fun z => Go.Sort.ltInt z d[a]!) d j i) j)) (by omega)
        exact ⟨by rw [this.1, swp_size], by omega⟩
      · exact ⟨rfl, bd.1⟩
end Go.Abs.G

namespace Go.Abs.G
open Go.Proofs
set_option linter.unusedVariables false
set_option linter.unusedSimpArgs false

set_option maxHeartbeats 1000000 in
theorem partition_spec (d : Array Int) (a b pivot : Nat) (hap : a ≤ pivot) (hpb : pivot < b) (hab : a + 2 < b) (hb : b ≤ d.size) (hs : d.size ≤ 1152921504606846976) :
    DC Try.prog slices_partitionOrdered_int.id [dataV d.size, vi a, vi b, vi pivot] [rowsO d] (fun r H => r = .tup [vi (Go.Sort.partition Go.Sort.ltInt d a b pivot).1, .bool (Go.Sort.partition Go.Sort.ltInt d a b pivot).2.1] ∧ H = [rowsO (Go.Sort.partition Go.Sort.ltInt d a b pivot).2.2]) := by
  refine DC.of slices_partitionOrdered_int.ok (by simp) ?_
  obtain ⟨R, hR⟩ : ∃ R, Go.Sort.partition Go.Sort.ltInt d a b pivot = R := ⟨_, rfl⟩
  rw [hR]
  unfold Go.Sort.partition at hR
  obtain ⟨n, hn⟩ : ∃ n, d.size = n := ⟨_, rfl⟩
  obtain ⟨d1, hd1⟩ : ∃ x, Go.Sort.swp d a pivot = x := ⟨_, rfl⟩
  have z1 : d1.size = n := by rw [← hd1, swp_size, hn]
  simp only [hd1] at hR
  obtain ⟨i, hi⟩ : ∃ x, Go.Sort.scanUp (fun x => Go.Sort.ltInt x d1[a]!) d1 (b - 1) (a + 1) = x := ⟨_, rfl⟩
  have bu := scanUp_bound (fun x => Go.Sort.ltInt x d1[a]!) d1 (b - 1) (b - 1 + 1 - (a + 1)) (a + 1) (Nat.le_refl _)
  have tu := scanUp_stop (fun x => Go.Sort.ltInt x d1[a]!) d1 (b - 1) (b - 1 + 1 - (a + 1)) (a + 1) (Nat.le_refl _)
  rw [hi] at hR bu tu
  obtain ⟨j, hj⟩ : ∃ x, Go.Sort.scanDown (fun x => !Go.Sort.ltInt x d1[a]!) d1 i (b - 1) = x := ⟨_, rfl⟩
  have bd := scanDown_bound (fun x => !Go.Sort.ltInt x d1[a]!) d1 i (b - 1)
  have td := scanDown_stop (fun x => !Go.Sort.ltInt x d1[a]!) d1 i (by omega) (b - 1)
  rw [hj] at hR bd td
  have b1 := bu.2 (by omega)
  have b2 := bd.2 (by omega) b1
  rw [hn]
  have hsn : n ≤ 1152921504606846976 := by omega
  have w1 : IntKind.i64.wrap ((a : Int) + 1) = ((a + 1 : Nat) : Int) := by rw [wrap64] <;> omega
  have w2 : IntKind.i64.wrap ((b : Int) - 1) = ((b - 1 : Nat) : Int) := by rw [wrap64] <;> omega
  have ka : a < d.size := by omega
  have kp : pivot < d.size := by omega
  have ka' : a < n := by omega
  have kp' : pivot < n := by omega
  unfold slices_partitionOrdered_int.ir
  refine vc_cut (fun s => gt s.sl 0 = dataV n ∧ gt s.sl 1 = vi a ∧ gt s.sl 2 = vi b ∧ gt s.sl 3 = vi pivot ∧ s.hp = [rowsO d]) (by simp -dsimp) ?_
  rintro ⟨sl, hp, bs⟩ ⟨h0, h1, h2, h3, rfl⟩
  refine vc_cut (fun s => gt s.sl 0 = dataV n ∧ gt s.sl 1 = vi a ∧ gt s.sl 2 = vi b ∧ s.hp = [rowsO d1]) ?_ ?_
  · have hsw := swp_rows d ka kp
    rw [hd1] at hsw
    by_cases heq : a = pivot
    · clear hR hd1
      subst heq
      simp only [List.set_set] at hsw
      simp -dsimp [h0, h1, h2, h3, hn, ka', kp', List.getElem_set]
      exact hsw
    · simp -dsimp [h0, h1, h2, h3, hn, ka', kp', heq, List.getElem_set, hsw]
  clear h0 h1 h2 h3
  rintro ⟨sl, hp, bs⟩ ⟨h0, h1, h2, rfl⟩
  refine vc_cut (fun s => gt s.sl 0 = dataV n ∧ gt s.sl 1 = vi a ∧ gt s.sl 10 = vi (a + 1 : Nat) ∧ gt s.sl 11 = vi (b - 1 : Nat) ∧ s.hp = [rowsO d1]) (by simp -dsimp [h0, h1, h2, w1, w2]) ?_
  clear h0 h1 h2
  rintro ⟨sl, hp, bs⟩ ⟨h0, h1, h10, h11, rfl⟩
  refine vc_cut (fun s => gt s.sl 0 = dataV n ∧ gt s.sl 1 = vi a ∧ gt s.sl 10 = vi i ∧ gt s.sl 11 = vi (b - 1 : Nat) ∧ s.hp = [rowsO d1]) (vc_block_of (part_up0 (i := a + 1) (j := b - 1) hsn ka' (by omega) (by omega) d1 z1 _ _ _ h0 h1 h10 h11 fun s q0 q1 q10 q11 qh => ?_)) ?_
  · rw [hi] at q10
    exact ⟨q0, q1, q10, q11, qh⟩
  clear h0 h1 h10 h11
  rintro ⟨sl, hp, bs⟩ ⟨h0, h1, h10, h11, rfl⟩
  refine vc_cut (fun s => gt s.sl 0 = dataV n ∧ gt s.sl 1 = vi a ∧ gt s.sl 10 = vi i ∧ gt s.sl 11 = vi j ∧ s.hp = [rowsO d1]) (vc_block_of (part_dn1 (i := i) (j := b - 1) hsn ka' (by omega) (by omega) (by omega) d1 z1 _ _ _ h0 h1 h10 h11 fun s q0 q1 q10 q11 qh => ?_)) ?_
  · rw [hj] at q11
    exact ⟨q0, q1, q10, q11, qh⟩
  clear h0 h1 h10 h11
  rintro ⟨sl, hp, bs⟩ ⟨h0, h1, h10, h11, rfl⟩
  have kj : j < d1.size := by omega
  have ka1 : a < d1.size := by omega
  have kj' : j < n := by omega
  by_cases hgt : i > j
  · rw [if_pos hgt] at hR
    have hgt' : (j : Int) < i := by omega
    have hsw := swp_rows d1 kj ka1
    by_cases heq : j = a
    · have hsw2 : ((d1.toList.map fun n => [V.a (.int .i64 n)]).set a [V.a (.int .i64 d1[a])]) = (Go.Sort.swp d1 j a).toList.map fun n => [V.a (.int .i64 n)] := by
        subst heq
        simpa only [List.set_set] using hsw
      obtain ⟨D, hD⟩ : ∃ D, Go.Sort.swp d1 j a = D := ⟨_, rfl⟩
      rw [hD] at hR hsw2
      clear hsw hD
      subst heq
      simp -dsimp [h0, h1, h10, h11, hgt', z1, ka', kj', List.getElem_set, ← hR, slices_partitionOrdered_int.rs]
      exact hsw2
    · simp -dsimp [h0, h1, h10, h11, hgt', z1, ka', kj', heq, List.getElem_set, hsw, ← hR, slices_partitionOrdered_int.rs]
  rw [if_neg hgt] at hR
  have hgt' : ¬ (j : Int) < i := by omega
  have hij : ¬ i = j := by
    intro heq
    have t1 := tu (by omega)
    have t2 := td (by omega)
    rw [← heq, t1] at t2
    cases t2
  have hlt : i < j := by omega
  have j1 : j - 1 + 1 = j := by omega
  obtain ⟨d2, hd2⟩ : ∃ x, Go.Sort.swp d1 i j = x := ⟨_, rfl⟩
  have z2 : d2.size = n := by rw [← hd2, swp_size, z1]
  have ki : i < d1.size := by omega
  have ki' : i < n := by omega
  have hsw := swp_rows d1 ki kj
  rw [hd2] at hsw
  rw [hd2] at hR
  have pb := partLoop_bound a (j - 1 + 1 - (i + 1)) (i + 1) (j - 1) d2 (Nat.le_refl _)
  obtain ⟨P, hP⟩ : ∃ x, Go.Sort.partLoop Go.Sort.ltInt a (i + 1) (j - 1) d2 = x := ⟨_, rfl⟩
  rw [hP] at hR pb
  obtain ⟨m, d3⟩ := P
  simp only at hR pb
  have w3 : IntKind.i64.wrap ((i : Int) + 1) = ((i + 1 : Nat) : Int) := by rw [wrap64] <;> omega
  have w4 : IntKind.i64.wrap ((j : Int) - 1) = ((j - 1 : Nat) : Int) := by rw [wrap64] <;> omega
  refine vc_cut (fun s => gt s.sl 0 = dataV n ∧ gt s.sl 1 = vi a ∧ gt s.sl 10 = vi i ∧ gt s.sl 11 = vi j ∧ s.hp = [rowsO d1]) (by simp -dsimp [h0, h1, h10, h11, hgt']) ?_
  clear h0 h1 h10 h11
  rintro ⟨sl, hp, bs⟩ ⟨h0, h1, h10, h11, rfl⟩
  refine vc_cut (fun s => gt s.sl 0 = dataV n ∧ gt s.sl 1 = vi a ∧ gt s.sl 10 = vi i ∧ gt s.sl 11 = vi j ∧ s.hp = [rowsO d2]) (by simp -dsimp [h0, h1, h10, h11, z1, ki', kj', hij, List.getElem_set, hsw]) ?_
  clear h0 h1 h10 h11
  rintro ⟨sl, hp, bs⟩ ⟨h0, h1, h10, h11, rfl⟩
  refine vc_cut (fun s => gt s.sl 0 = dataV n ∧ gt s.sl 1 = vi a ∧ gt s.sl 10 = vi (i + 1 : Nat) ∧ gt s.sl 11 = vi j ∧ s.hp = [rowsO d2]) (by simp -dsimp [h0, h1, h10, h11, w3]) ?_
  clear h0 h1 h10 h11
  rintro ⟨sl, hp, bs⟩ ⟨h0, h1, h10, h11, rfl⟩
  refine vc_cut (fun s => gt s.sl 0 = dataV n ∧ gt s.sl 1 = vi a ∧ gt s.sl 10 = vi (i + 1 : Nat) ∧ gt s.sl 11 = vi (j - 1 : Nat) ∧ s.hp = [rowsO d2]) (by simp -dsimp [h0, h1, h10, h11, w4]) ?_
  clear h0 h1 h10 h11
  rintro ⟨sl, hp, bs⟩ ⟨h0, h1, h10, h11, rfl⟩
  refine vc_cut (fun s => gt s.sl 0 = dataV n ∧ gt s.sl 1 = vi a ∧ gt s.sl 11 = vi m ∧ s.hp = [rowsO d3]) (vc_block_of (part_loop (i := i + 1) (j := j - 1) hsn ka' (by omega) (by omega) (by omega) d2 z2 _ _ _ h0 h1 h10 h11 fun s q0 q1 q11 qh => ?_)) ?_
  · rw [hP] at q11 qh
    exact ⟨q0, q1, q11, qh⟩
  clear h0 h1 h10 h11
  rintro ⟨sl, hp, bs⟩ ⟨h0, h1, h11, rfl⟩
  have z3 : d3.size = n := by omega
  have km : m < d3.size := by omega
  have ka3 : a < d3.size := by omega
  have km' : m < n := by omega
  have hsw3 := swp_rows d3 km ka3
  by_cases heq : m = a
  · have hsw2 : ((d3.toList.map fun n => [V.a (.int .i64 n)]).set a [V.a (.int .i64 d3[a])]) = (Go.Sort.swp d3 m a).toList.map fun n => [V.a (.int .i64 n)] := by
      subst heq
      simpa only [List.set_set] using hsw3
    obtain ⟨D, hD⟩ : ∃ D, Go.Sort.swp d3 m a = D := ⟨_, rfl⟩
    rw [hD] at hR hsw2
    clear hsw3 hD
    subst heq
    simp -dsimp [h0, h1, h11, z3, ka', km', List.getElem_set, ← hR, slices_partitionOrdered_int.rs]
    exact hsw2
  · simp -dsimp [h0, h1, h11, z3, ka', km', heq, List.getElem_set, hsw3, ← hR, slices_partitionOrdered_int.rs]
end Go.Abs.G

namespace Go.Abs.G
open Go.Proofs
set_option linter.unusedVariables false
set_option linter.unusedSimpArgs false

/-- The 'for' of partitionEqual. -/
theorem peq_loop {n a i j : Nat} (hs : n ≤ 1152921504606846976) (ha : a < n) (hi : 1 ≤ i) (hj : j < n) (hij : i ≤ j + 1) (d : Array Int) (hd : d.size = n) (Q : Ex → St → Prop) (sl : Sl) (bs : Nat)
    (h0 : gt sl 0 = dataV n) (h1 : gt sl 1 = vi a) (h10 : gt sl 9 = vi i) (h11 : gt sl 10 = vi j)
    (hq : ∀ s, gt s.sl 0 = dataV n → gt s.sl 1 = vi a → gt s.sl 9 = vi (Go.Sort.partEqLoop Go.Sort.ltInt a i j d).1 → s.hp = [rowsO (Go.Sort.partEqLoop Go.Sort.ltInt a i j d).2] → Q (.exit 0) s) :
    WI Try.prog (.loop slices_partitionEqualOrdered_int.b0) Q ⟨sl, [rowsO d], bs⟩ := by
  obtain ⟨S, hS⟩ : ∃ S, Go.Sort.partEqLoop Go.Sort.ltInt a i j d = S := ⟨_, rfl⟩
  rw [hS] at hq
  refine WI.loop 1 (by simp) (fun s => ∃ (x y : Nat) (d' : Array Int), 1 ≤ x ∧ y < n ∧ x ≤ y + 1 ∧ d'.size = n ∧ gt s.sl 0 = dataV n ∧ gt s.sl 1 = vi a ∧ gt s.sl 9 = vi x ∧ gt s.sl 10 = vi y ∧ s.hp = [rowsO d'] ∧ S = Go.Sort.partEqLoop Go.Sort.ltInt a x y d') (fun s => ((gt s.sl 10).num + 1 - (gt s.sl 9).num).toNat) ?_ ?_
  · exact ⟨i, j, d, hi, hj, hij, hd, h0, h1, h10, h11, rfl, hS.symm⟩
  · clear h0 h1 h10 h11
    rintro ⟨sl, hp, bs⟩ ⟨x, y, d', hx, hy, hxy, hd', h0, h1, h10, h11, rfl, he⟩
    have g10 := h10
    have g11 := h11
    rw [Go.Sort.partEqLoop] at he
    have bu := scanUp_bound (fun z => !Go.Sort.ltInt d'[a]! z) d' y (y + 1 - x) x (Nat.le_refl _)
    unfold slices_partitionEqualOrdered_int.b0
    refine vc_block_of ?_
    obtain ⟨i2, hi2⟩ : ∃ k, Go.Sort.scanUp (fun z => !Go.Sort.ltInt d'[a]! z) d' y x = k := ⟨_, rfl⟩
    rw [hi2] at he bu
    have bd := scanDown_bound (fun z => Go.Sort.ltInt d'[a]! z) d' i2 y
    obtain ⟨j2, hj2⟩ : ∃ k, Go.Sort.scanDown (fun z => Go.Sort.ltInt d'[a]! z) d' i2 y = k := ⟨_, rfl⟩
    rw [hj2] at he bd
    have b1 := bu.2 hxy
    have b2 := bd.2 (by omega) b1
    refine vc_cut (fun s => gt s.sl 0 = dataV n ∧ gt s.sl 1 = vi a ∧ gt s.sl 9 = vi i2 ∧ gt s.sl 10 = vi y ∧ s.hp = [rowsO d']) (vc_block_of (peq_up (i := x) (j := y) hs ha hy hxy d' hd' _ _ _ h0 h1 h10 h11 fun s q0 q1 q10 q11 qh => ?_)) ?_
    · rw [hi2] at q10
      exact ⟨q0, q1, q10, q11, qh⟩
    clear h0 h1 h10 h11
    rintro ⟨sl, hp, bs⟩ ⟨h0, h1, h10, h11, rfl⟩
    refine vc_cut (fun s => gt s.sl 0 = dataV n ∧ gt s.sl 1 = vi a ∧ gt s.sl 9 = vi i2 ∧ gt s.sl 10 = vi j2 ∧ s.hp = [rowsO d']) (vc_block_of (peq_dn (i := i2) (j := y) hs ha hy (by omega) (by omega) d' hd' _ _ _ h0 h1 h10 h11 fun s q0 q1 q10 q11 qh => ?_)) ?_
    · rw [hj2] at q11
      exact ⟨q0, q1, q10, q11, qh⟩
    clear h0 h1 h10 h11
    rintro ⟨sl, hp, bs⟩ ⟨h0, h1, h10, h11, rfl⟩
    by_cases hgt : i2 > j2
    · rw [if_pos hgt] at he
      have hgt' : (j2 : Int) < i2 := by omega
      simp -dsimp [h0, h1, h10, h11, hgt']
      exact hq _ (by simp) (by simp) (by simp [he]) (by simp [he])
    · rw [if_neg hgt, dif_pos (by omega)] at he
      have hgt' : ¬ (j2 : Int) < i2 := by omega
      have k1 : i2 < d'.size := by omega
      have k2 : j2 < d'.size := by omega
      have k1' : i2 < n := by omega
      have k2' : j2 < n := by omega
      have hsw := swp_rows d' k1 k2
      have hwi : IntKind.i64.wrap ((i2 : Int) + 1) = ((i2 + 1 : Nat) : Int) := by rw [wrap64] <;> omega
      have hwj : IntKind.i64.wrap ((j2 : Int) - 1) = ((j2 - 1 : Nat) : Int) := by rw [wrap64] <;> omega
      have heq : ¬ i2 = j2 := by
        intro heq
        have t1 := scanUp_stop (fun z => !Go.Sort.ltInt d'[a]! z) d' y (y + 1 - x) x (Nat.le_refl _) (by rw [hi2]; omega)
        have t2 := scanDown_stop (fun z => Go.Sort.ltInt d'[a]! z) d' i2 (by omega) y (by rw [hj2]; omega)
        rw [hi2] at t1
        rw [hj2, ← heq] at t2
        rw [t2] at t1
        cases t1
      simp -dsimp [h0, h1, h10, h11, hgt', hd', k1', k2', heq, hwi, hwj, List.getElem_set, g10, g11]
      exact ⟨⟨i2 + 1, by omega, j2 - 1, by omega, by omega, Go.Sort.swp d' i2 j2, by rw [swp_size]; exact hd', by omega, rfl, hsw, he⟩, by omega⟩


theorem partEqLoop_size (a : Nat) : ∀ (k i j : Nat) (d : Array Int), j + 1 - i ≤ k → (Go.Sort.partEqLoop Go.Sort.ltInt a i j d).2.size = d.size := by
  intro k
  induction k with
  | zero =>
    intro i j d h
    rw [Go.Sort.partEqLoop]
    have bu := scanUp_bound (fun z => !Go.Sort.ltInt d[a]! z) d j (j + 1 - i) i (Nat.le_refl _)
    have bd := scanDown_bound (fun z => Go.Sort.ltInt d[a]! z) d (Go.Sort.scanUp (fun z => !Go.Sort.ltInt d[a]! z) d j i) j
    split
    · rfl
    · split
      · omega
      · rfl
  | succ k ih =>
    intro i j d h
    rw [Go.Sort.partEqLoop]
    split
    · rfl
    · split
      · next hlt => rw [ih _ _ _ (by omega), swp_size]
      · rfl

theorem partEq_spec (d : Array Int) (a b pivot : Nat) (hap : a ≤ pivot) (hpb : pivot < b) (hab : a + 2 < b) (hb : b ≤ d.size) (hs : d.size ≤ 1152921504606846976) :
    DC Try.prog slices_partitionEqualOrdered_int.id [dataV d.size, vi a, vi b, vi pivot] [rowsO d] (fun r H => r = vi (Go.Sort.partitionEqual Go.Sort.ltInt d a b pivot).1 ∧ H = [rowsO (Go.Sort.partitionEqual Go.Sort.ltInt d a b pivot).2]) := by
  refine DC.of slices_partitionEqualOrdered_int.ok (by simp) ?_
  obtain ⟨R, hR⟩ : ∃ R, Go.Sort.partitionEqual Go.Sort.ltInt d a b pivot = R := ⟨_, rfl⟩
  rw [hR]
  unfold Go.Sort.partitionEqual at hR
  obtain ⟨n, hn⟩ : ∃ n, d.size = n := ⟨_, rfl⟩
  obtain ⟨d1, hd1⟩ : ∃ x, Go.Sort.swp d a pivot = x := ⟨_, rfl⟩
  have z1 : d1.size = n := by rw [← hd1, swp_size, hn]
  rw [hd1] at hR
  rw [hn]
  have hsn : n ≤ 1152921504606846976 := by omega
  have w1 : IntKind.i64.wrap ((a : Int) + 1) = ((a + 1 : Nat) : Int) := by rw [wrap64] <;> omega
  have w2 : IntKind.i64.wrap ((b : Int) - 1) = ((b - 1 : Nat) : Int) := by rw [wrap64] <;> omega
  have ka : a < d.size := by omega
  have kp : pivot < d.size := by omega
  have ka' : a < n := by omega
  have kp' : pivot < n := by omega
  unfold slices_partitionEqualOrdered_int.ir
  refine vc_cut (fun s => gt s.sl 0 = dataV n ∧ gt s.sl 1 = vi a ∧ gt s.sl 2 = vi b ∧ gt s.sl 3 = vi pivot ∧ s.hp = [rowsO d]) (by simp -dsimp) ?_
  rintro ⟨sl, hp, bs⟩ ⟨h0, h1, h2, h3, rfl⟩
  refine vc_cut (fun s => gt s.sl 0 = dataV n ∧ gt s.sl 1 = vi a ∧ gt s.sl 2 = vi b ∧ s.hp = [rowsO d1]) ?_ ?_
  · have hsw := swp_rows d ka kp
    rw [hd1] at hsw
    by_cases heq : a = pivot
    · clear hR hd1
      subst heq
      simp only [List.set_set] at hsw
      simp -dsimp [h0, h1, h2, h3, hn, ka', kp', List.getElem_set]
      exact hsw
    · simp -dsimp [h0, h1, h2, h3, hn, ka', kp', heq, List.getElem_set, hsw]
  clear h0 h1 h2 h3
  rintro ⟨sl, hp, bs⟩ ⟨h0, h1, h2, rfl⟩
  refine vc_cut (fun s => gt s.sl 0 = dataV n ∧ gt s.sl 1 = vi a ∧ gt s.sl 9 = vi (a + 1 : Nat) ∧ gt s.sl 10 = vi (b - 1 : Nat) ∧ s.hp = [rowsO d1]) (by simp -dsimp [h0, h1, h2, w1, w2]) ?_
  clear h0 h1 h2
  rintro ⟨sl, hp, bs⟩ ⟨h0, h1, h10, h11, rfl⟩
  refine vc_cut (fun s => gt s.sl 9 = vi R.1 ∧ s.hp = [rowsO R.2]) (vc_block_of (peq_loop (i := a + 1) (j := b - 1) hsn ka' (by omega) (by omega) (by omega) d1 z1 _ _ _ h0 h1 h10 h11 fun s q0 q1 q11 qh => ?_)) ?_
  · rw [hR] at q11 qh
    exact ⟨q11, qh⟩
  clear h0 h1 h10 h11
  rintro ⟨sl, hp, bs⟩ ⟨h9, rfl⟩
  simp -dsimp [h9, slices_partitionEqualOrdered_int.rs]
end Go.Abs.G

namespace Go.Abs.G
open Go.Proofs
set_option linter.unusedVariables false
set_option linter.unusedSimpArgs false

abbrev pins (n a b i s : Nat) (st : St) : Prop := gt st.sl 0 = dataV n ∧ gt st.sl 1 = vi a ∧ gt st.sl 2 = vi b ∧ gt st.sl 7 = vi i ∧ gt st.sl 8 = vi s

theorem pins_scan {n a b i s : Nat} (hs : n ≤ 1152921504606846976) (hb : b ≤ n) (hi : 1 ≤ i) (hin : i ≤ n) (d : Array Int) (hd : d.size = n) (Q : Ex → St → Prop) (sl : Sl) (bs : Nat)
    (h : pins n a b i s ⟨sl, [rowsO d], bs⟩) (hq : ∀ st, pins n a b (Go.Sort.scanSorted Go.Sort.ltInt d b i) s st → st.hp = [rowsO d] → Q (.exit 2) st) :
    WI Try.prog (.loop slices_partialInsertionSortOrdered_int.b1) Q ⟨sl, [rowsO d], bs⟩ := by
  obtain ⟨S, hS⟩ : ∃ S, Go.Sort.scanSorted Go.Sort.ltInt d b i = S := ⟨_, rfl⟩
  rw [hS] at hq
  refine WI.loop 1 (by simp) (fun st => ∃ k : Nat, 1 ≤ k ∧ k ≤ n ∧ pins n a b k s st ∧ st.hp = [rowsO d] ∧ S = Go.Sort.scanSorted Go.Sort.ltInt d b k) (fun st => (b - (gt st.sl 7).num).toNat) ?_ ?_
  · exact ⟨i, hi, hin, h, rfl, hS.symm⟩
  · clear h
    rintro ⟨sl, hp, bs⟩ ⟨k, hk, hkn, ⟨h0, h1, h2, h7, h8⟩, rfl, he⟩
    rw [Go.Sort.scanSorted] at he
    by_cases hkb : k < b
    · obtain ⟨m, rfl⟩ : ∃ m, k = m + 1 := ⟨k - 1, by omega⟩
      have hm : m + 1 - 1 = m := by omega
      rw [hm] at he
      obtain ⟨q, hq'⟩ : ∃ q, m + 1 = q := ⟨_, rfl⟩
      rw [hq'] at he h7 hkb
      have k1 : q < d.size := by omega
      have k0 : m < d.size := by omega
      have k1' : q < n := by omega
      have k0' : m < n := by omega
      have hkb' : (q : Int) < b := by omega
      have hw : IntKind.i64.wrap ((q : Int) - 1) = (m : Int) := by rw [wrap64] <;> omega
      have hw2 : IntKind.i64.wrap ((q : Int) + 1) = ((q + 1 : Nat) : Int) := by rw [wrap64] <;> omega
      rw [get_bang d k1, get_bang d k0] at he
      simp -dsimp [↓call_f, slices_partialInsertionSortOrdered_int.b1, h0, h1, h2, h7, h8, hkb, hkb', hw, k1', k0', hd]
      refine (less_spec d[q] d[m]).use ?_
      by_cases hlt : Go.Sort.ltInt d[q] d[m] = true
      · simp only [hlt] at he
        rw [if_neg (by simp)] at he
        simp -dsimp [hlt, h0, h1, h2, h7, h8]
        exact hq _ ⟨by simp, by simp, by simp, by simp [he], by simp⟩ (by simp)
      · have hlt : Go.Sort.ltInt d[q] d[m] = false := by simpa using hlt
        simp only [hlt] at he
        rw [if_pos (by simp; omega)] at he
        simp -dsimp [hlt, h0, h1, h2, h7, h8, hw2, pins]
        exact ⟨⟨q + 1, by omega, by omega, by omega, he⟩, by omega⟩
    · have hkb' : ¬ (k : Int) < b := by omega
      rw [if_neg (by simp; omega)] at he
      simp -dsimp [slices_partialInsertionSortOrdered_int.b1, h0, h1, h2, h7, h8, hkb, hkb']
      exact hq _ ⟨by simp, by simp, by simp, by simp [he], by simp⟩ (by simp)

theorem shiftDown_size : ∀ (j : Nat) (d : Array Int), (Go.Sort.shiftDown Go.Sort.ltInt j d).size = d.size := by
  intro j
  induction j with
  | zero => intro d; rfl
  | succ j ih =>
    intro d
    simp only [Go.Sort.shiftDown]
    split
    · rfl
    · rw [ih, swp_size]

theorem shiftUp_size (b : Nat) : ∀ (k j : Nat) (d : Array Int), b - j ≤ k → (Go.Sort.shiftUp Go.Sort.ltInt b j d).size = d.size := by
  intro k
  induction k with
  | zero => intro j d h; rw [Go.Sort.shiftUp, if_neg (by omega)]
  | succ k ih =>
    intro j d h
    rw [Go.Sort.shiftUp]
    split
    · split
      · rfl
      · rw [ih _ _ (by omega), swp_size]
    · rfl

theorem pins_down {n a b i s j : Nat} (hs : n ≤ 1152921504606846976) (hj : j < n) (d : Array Int) (hd : d.size = n) (Q : Ex → St → Prop) (sl : Sl) (bs : Nat)
    (h : pins n a b i s ⟨sl, [rowsO d], bs⟩) (h9 : gt sl 9 = vi j) (hq : ∀ st, pins n a b i s st → st.hp = [rowsO (Go.Sort.shiftDown Go.Sort.ltInt j d)] → Q (.exit 4) st) :
    WI Try.prog (.loop slices_partialInsertionSortOrdered_int.b2) Q ⟨sl, [rowsO d], bs⟩ := by
  obtain ⟨S, hS⟩ : ∃ S, Go.Sort.shiftDown Go.Sort.ltInt j d = S := ⟨_, rfl⟩
  rw [hS] at hq
  refine WI.loop 1 (by simp) (fun st => ∃ (k : Nat) (d' : Array Int), k < n ∧ d'.size = n ∧ pins n a b i s st ∧ gt st.sl 9 = vi k ∧ st.hp = [rowsO d'] ∧ S = Go.Sort.shiftDown Go.Sort.ltInt k d') (fun st => (gt st.sl 9).num.toNat) ?_ ?_
  · exact ⟨j, d, hj, hd, h, h9, rfl, hS.symm⟩
  · clear h h9 hd
    rintro ⟨sl, hp, bs⟩ ⟨k, d', hk, hd, ⟨h0, h1, h2, h7, h8⟩, h9, rfl, he⟩
    have g9 := h9
    cases k with
    | zero =>
      have he : S = d' := he
      simp -dsimp [slices_partialInsertionSortOrdered_int.b2, h0, h1, h2, h7, h8, h9]
      exact hq _ ⟨by simp, by simp, by simp, by simp, by simp⟩ (by simp [he])
    | succ m =>
      simp only [Go.Sort.shiftDown] at he
      obtain ⟨q, hq'⟩ : ∃ q, m + 1 = q := ⟨_, rfl⟩
      rw [hq'] at he h9 g9
      have k1 : q < d'.size := by omega
      have k0 : m < d'.size := by omega
      have k1' : q < n := by omega
      have k0' : m < n := by omega
      have hge : (1 : Int) ≤ q := by omega
      have hne : ¬ q = m := by omega
      have hw : IntKind.i64.wrap ((q : Int) - 1) = (m : Int) := by rw [wrap64] <;> omega
      have hsw := swp_rows d' k1 k0
      rw [get_bang d' k1, get_bang d' k0] at he
      simp -dsimp [↓call_f, slices_partialInsertionSortOrdered_int.b2, h0, h1, h2, h7, h8, h9, hge, hw, k1', k0', hd]
      refine (less_spec d'[q] d'[m]).use ?_
      by_cases hlt : Go.Sort.ltInt d'[q] d'[m] = true
      · simp only [hlt] at he
        rw [if_neg (by simp)] at he
        simp -dsimp [hlt, h0, h1, h2, h7, h8, h9, hw, k1', k0', hd, hne, List.getElem_set, pins]
        exact ⟨⟨m, by omega, Go.Sort.swp d' q m, by rw [swp_size]; exact hd, rfl, hsw, he⟩, by omega⟩
      · have hlt : Go.Sort.ltInt d'[q] d'[m] = false := by simpa using hlt
        simp only [hlt] at he
        rw [if_pos (by simp)] at he
        simp -dsimp [hlt, h0, h1, h2, h7, h8, h9]
        exact hq _ ⟨by simp, by simp, by simp, by simp, by simp⟩ (by simp [he])

theorem pins_up {n a b i s j : Nat} (hs : n ≤ 1152921504606846976) (hb : b ≤ n) (hj1 : 1 ≤ j) (hj : j ≤ n) (d : Array Int) (hd : d.size = n) (Q : Ex → St → Prop) (sl : Sl) (bs : Nat)
    (h : pins n a b i s ⟨sl, [rowsO d], bs⟩) (h9 : gt sl 10 = vi j) (hq : ∀ st, pins n a b i s st → st.hp = [rowsO (Go.Sort.shiftUp Go.Sort.ltInt b j d)] → Q (.exit 6) st) :
    WI Try.prog (.loop slices_partialInsertionSortOrdered_int.b3) Q ⟨sl, [rowsO d], bs⟩ := by
  obtain ⟨S, hS⟩ : ∃ S, Go.Sort.shiftUp Go.Sort.ltInt b j d = S := ⟨_, rfl⟩
  rw [hS] at hq
  refine WI.loop 1 (by simp) (fun st => ∃ (k : Nat) (d' : Array Int), 1 ≤ k ∧ k ≤ n ∧ d'.size = n ∧ pins n a b i s st ∧ gt st.sl 10 = vi k ∧ st.hp = [rowsO d'] ∧ S = Go.Sort.shiftUp Go.Sort.ltInt b k d') (fun st => (b - (gt st.sl 10).num).toNat) ?_ ?_
  · exact ⟨j, d, hj1, hj, hd, h, h9, rfl, hS.symm⟩
  · clear h h9 hd
    rintro ⟨sl, hp, bs⟩ ⟨q, d', hk1, hk, hd, ⟨h0, h1, h2, h7, h8⟩, h9, rfl, he⟩
    have g9 := h9
    rw [Go.Sort.shiftUp] at he
    by_cases hqb : q < b
    · rw [if_pos hqb] at he
      obtain ⟨m, hm⟩ : ∃ m, q - 1 = m := ⟨_, rfl⟩
      rw [hm] at he
      have k1 : q < d'.size := by omega
      have k0 : m < d'.size := by omega
      have k1' : q < n := by omega
      have k0' : m < n := by omega
      have hqb' : (q : Int) < b := by omega
      have hne : ¬ q = m := by omega
      have hw : IntKind.i64.wrap ((q : Int) - 1) = (m : Int) := by rw [wrap64] <;> omega
      have hw2 : IntKind.i64.wrap ((q : Int) + 1) = ((q + 1 : Nat) : Int) := by rw [wrap64] <;> omega
      have hsw := swp_rows d' k1 k0
      rw [get_bang d' k1, get_bang d' k0] at he
      simp -dsimp [↓call_f, slices_partialInsertionSortOrdered_int.b3, h0, h1, h2, h7, h8, h9, hqb, hqb', hw, k1', k0', hd]
      refine (less_spec d'[q] d'[m]).use ?_
      by_cases hlt : Go.Sort.ltInt d'[q] d'[m] = true
      · simp only [hlt] at he
        rw [if_neg (by simp)] at he
        simp -dsimp [hlt, h0, h1, h2, h7, h8, h9, hw, hw2, k1', k0', hd, hne, List.getElem_set, pins]
        exact ⟨⟨q + 1, by omega, by omega, Go.Sort.swp d' q m, by rw [swp_size]; exact hd, by omega, hsw, he⟩, by omega⟩
      · have hlt : Go.Sort.ltInt d'[q] d'[m] = false := by simpa using hlt
        simp only [hlt] at he
        rw [if_pos (by simp)] at he
        simp -dsimp [hlt, h0, h1, h2, h7, h8, h9]
        exact hq _ ⟨by simp, by simp, by simp, by simp, by simp⟩ (by simp [he])
    · have hqb' : ¬ (q : Int) < b := by omega
      rw [if_neg hqb] at he
      simp -dsimp [slices_partialInsertionSortOrdered_int.b3, h0, h1, h2, h7, h8, h9, hqb, hqb']
      exact hq _ ⟨by simp, by simp, by simp, by simp, by simp⟩ (by simp [he])

theorem scanSorted_bound (d : Array Int) (b : Nat) : ∀ (k i : Nat), b - i ≤ k → i ≤ Go.Sort.scanSorted Go.Sort.ltInt d b i ∧ (i ≤ b → Go.Sort.scanSorted Go.Sort.ltInt d b i ≤ b) := by
  intro k
  induction k with
  | zero =>
    intro i h
    rw [Go.Sort.scanSorted, if_neg (by simp; omega)]
    exact ⟨Nat.le_refl _, fun h => h⟩
  | succ k ih =>
    intro i h
    rw [Go.Sort.scanSorted]
    split
    · next hc =>
      simp at hc
      have := ih (i + 1) (by omega)
      exact ⟨by omega, fun _ => this.2 (by omega)⟩
    · exact ⟨Nat.le_refl _, fun h => h⟩

set_option maxHeartbeats 1000000 in
theorem pins_spec (d : Array Int) (a b : Nat) (hab : a + 12 < b) (hb : b ≤ d.size) (hs : d.size ≤ 1152921504606846976) :
    DC Try.prog slices_partialInsertionSortOrdered_int.id [dataV d.size, vi a, vi b] [rowsO d] (fun r H => r = .bool (Go.Sort.partialInsertionSort Go.Sort.ltInt d a b).2 ∧ H = [rowsO (Go.Sort.partialInsertionSort Go.Sort.ltInt d a b).1]) := by
  refine DC.of slices_partialInsertionSortOrdered_int.ok (by simp) ?_
  obtain ⟨R, hR⟩ : ∃ R, Go.Sort.partialInsertionSort Go.Sort.ltInt d a b = R := ⟨_, rfl⟩
  rw [hR]
  unfold Go.Sort.partialInsertionSort at hR
  obtain ⟨n, hn⟩ : ∃ n, d.size = n := ⟨_, rfl⟩
  rw [hn]
  have w1 : IntKind.i64.wrap ((a : Int) + 1) = ((a + 1 : Nat) : Int) := by rw [wrap64] <;> omega
  simp -dsimp [↓loop_f, slices_partialInsertionSortOrdered_int.ir, w1]
  refine WI.mono (Q := fun e st => (e = .exit 0 ∧ R.2 = false ∧ st.hp = [rowsO R.1]) ∨ (e = .ret ∧ gt st.sl 6 = .bool R.2 ∧ st.hp = [rowsO R.1])) (WI.loop 1 (by simp) (fun st => ∃ (s i : Nat) (d' : Array Int), s ≤ 5 ∧ a + 1 ≤ i ∧ i ≤ b ∧ d'.size = n ∧ pins n a b i s st ∧ st.hp = [rowsO d'] ∧ R = Go.Sort.partialIns Go.Sort.ltInt a b (5 - s) i d') (fun st => (5 - (gt st.sl 8).num).toNat) ?_ ?_) ?_
  · exact ⟨0, a + 1, d, by omega, by omega, by omega, hn, ⟨by simp, by simp, by simp, by simp, by simp⟩, rfl, hR.symm⟩
  · rintro ⟨sl, hp, bs⟩ ⟨s, i, d', hs5, hi1, hib, hd, ⟨h0, h1, h2, h7, h8⟩, rfl, he⟩
    by_cases hlt5 : s < 5
    · obtain ⟨t, ht⟩ : ∃ t, 5 - s = t + 1 := ⟨4 - s, by omega⟩
      have ht' : 5 - (s + 1) = t := by omega
      rw [ht] at he
      simp only [Go.Sort.partialIns] at he
      have i5 : (s : Int) < 5 := by omega
      have g8 := h8
      obtain ⟨k, hk⟩ : ∃ k, Go.Sort.scanSorted Go.Sort.ltInt d' b i = k := ⟨_, rfl⟩
      have bk := scanSorted_bound d' b (b - i) i (Nat.le_refl _)
      rw [hk] at he bk
      have hkb := bk.2 hib
      have hk1 := bk.1
      unfold slices_partialInsertionSortOrdered_int.b0
      refine vc_cut (fun st => pins n a b i s st ∧ st.hp = [rowsO d']) (by simp -dsimp [h0, h1, h2, h7, h8, i5, pins]) ?_
      clear h0 h1 h2 h7 h8
      rintro ⟨sl, hp, bs⟩ ⟨h, rfl⟩
      refine vc_cut (fun st => ∃ (x : Nat) (d2 : Array Int), a + 1 ≤ x ∧ x ≤ b ∧ d2.size = n ∧ pins n a b x s st ∧ st.hp = [rowsO d2] ∧ R = Go.Sort.partialIns Go.Sort.ltInt a b t x d2) (vc_block_of ?_) ?_
      · refine vc_cut (fun st => pins n a b k s st ∧ st.hp = [rowsO d']) (vc_block_of (pins_scan (by omega) (by omega) (by omega) (by omega) d' hd _ _ _ h fun st q qh => ?_)) ?_
        · rw [hk] at q
          exact ⟨q, qh⟩
        clear h
        rintro ⟨sl, hp, bs⟩ ⟨⟨h0, h1, h2, h7, h8⟩, rfl⟩
        by_cases hkeq : k = b
        · rw [if_pos hkeq] at he
          have i1 : (k : Int) = b := by omega
          simp -dsimp [h0, h1, h2, h7, h8, i1, he]
        rw [if_neg hkeq] at he
        have i1 : ¬ (k : Int) = b := by omega
        refine vc_cut (fun st => pins n a b k s st ∧ st.hp = [rowsO d']) (by simp -dsimp [h0, h1, h2, h7, h8, i1, pins]) ?_
        clear h0 h1 h2 h7 h8
        rintro ⟨sl, hp, bs⟩ ⟨⟨h0, h1, h2, h7, h8⟩, rfl⟩
        have w2 : IntKind.i64.wrap ((b : Int) - a) = ((b - a : Nat) : Int) := by rw [wrap64] <;> omega
        by_cases h50 : b - a < 50
        · rw [if_pos h50] at he
          have i2 : ((b - a : Nat) : Int) < 50 := by omega
          simp -dsimp [h0, h1, h2, h7, h8, w2, i2, h50, he]
        rw [if_neg h50] at he
        have i2 : ¬ ((b - a : Nat) : Int) < 50 := by omega
        refine vc_cut (fun st => pins n a b k s st ∧ st.hp = [rowsO d']) (by simp -dsimp [h0, h1, h2, h7, h8, w2, i2, h50, pins]) ?_
        clear h0 h1 h2 h7 h8
        rintro ⟨sl, hp, bs⟩ ⟨⟨h0, h1, h2, h7, h8⟩, rfl⟩
        obtain ⟨m, hm⟩ : ∃ m, k - 1 = m := ⟨_, rfl⟩
        rw [hm] at he
        obtain ⟨d1, hd1⟩ : ∃ x, Go.Sort.swp d' k m = x := ⟨_, rfl⟩
        rw [hd1] at he
        have z1 : d1.size = n := by rw [← hd1, swp_size, hd]
        have k1 : k < d'.size := by omega
        have k0 : m < d'.size := by omega
        have k1' : k < n := by omega
        have k0' : m < n := by omega
        have hne : ¬ k = m := by omega
        have hsw := swp_rows d' k1 k0
        rw [hd1] at hsw
        have w3 : IntKind.i64.wrap ((k : Int) - 1) = (m : Int) := by rw [wrap64] <;> omega
        refine vc_cut (fun st => pins n a b k s st ∧ st.hp = [rowsO d1]) (by simp -dsimp [h0, h1, h2, h7, h8, w3, k1', k0', hd, hne, List.getElem_set, pins, hsw]) ?_
        clear h0 h1 h2 h7 h8
        rintro ⟨sl, hp, bs⟩ ⟨⟨h0, h1, h2, h7, h8⟩, rfl⟩
        obtain ⟨d2, hd2⟩ : ∃ x, (if k - a ≥ 2 then Go.Sort.shiftDown Go.Sort.ltInt m d1 else d1) = x := ⟨_, rfl⟩
        rw [hd2] at he
        have z2 : d2.size = n := by
          rw [← hd2]
          split
          · rw [shiftDown_size, z1]
          · exact z1
        have w4 : IntKind.i64.wrap ((k : Int) - a) = ((k - a : Nat) : Int) := by rw [wrap64] <;> omega
        refine vc_cut (fun st => pins n a b k s st ∧ st.hp = [rowsO d2]) ?_ ?_
        · by_cases hc : k - a ≥ 2
          · rw [if_pos hc] at hd2
            have ic : (2 : Int) ≤ ((k - a : Nat) : Int) := by omega
            simp -dsimp [↓loop_f, h0, h1, h2, h7, h8, w3, w4, ic]
            refine pins_down (n := n) (a := a) (b := b) (s := s) (i := k) (j := m) (by omega) k0' d1 z1 _ _ _ ⟨by simp, by simp, by simp, by simp, by simp⟩ (by simp) fun st q qh => ?_
            rw [hd2] at qh
            exact ⟨q, qh⟩
          · rw [if_neg hc] at hd2
            have ic : ¬ (2 : Int) ≤ ((k - a : Nat) : Int) := by omega
            simp -dsimp [h0, h1, h2, h7, h8, w4, ic, pins, hd2]
        clear h0 h1 h2 h7 h8
        rintro ⟨sl, hp, bs⟩ ⟨⟨h0, h1, h2, h7, h8⟩, rfl⟩
        obtain ⟨d3, hd3⟩ : ∃ x, (if b - k ≥ 2 then Go.Sort.shiftUp Go.Sort.ltInt b (k + 1) d2 else d2) = x := ⟨_, rfl⟩
        rw [hd3] at he
        have z3 : d3.size = n := by
          rw [← hd3]
          split
          · rw [shiftUp_size b (b - (k + 1)) (k + 1) d2 (Nat.le_refl _), z2]
          · exact z2
        have w5 : IntKind.i64.wrap ((b : Int) - k) = ((b - k : Nat) : Int) := by rw [wrap64] <;> omega
        have w6 : IntKind.i64.wrap ((k : Int) + 1) = ((k + 1 : Nat) : Int) := by rw [wrap64] <;> omega
        have fin : ∀ st, pins n a b k s st → st.hp = [rowsO d3] → ∃ (x : Nat) (d2 : Array Int), a + 1 ≤ x ∧ x ≤ b ∧ d2.size = n ∧ pins n a b x s st ∧ st.hp = [rowsO d2] ∧ R = Go.Sort.partialIns Go.Sort.ltInt a b t x d2 :=
          fun st q qh => ⟨k, d3, by omega, hkb, z3, q, qh, he⟩
        by_cases hc : b - k ≥ 2
        · rw [if_pos hc] at hd3
          have ic : (2 : Int) ≤ ((b - k : Nat) : Int) := by omega
          simp -dsimp [↓loop_f, h0, h1, h2, h7, h8, w5, w6, ic]
          refine pins_up (n := n) (a := a) (b := b) (s := s) (i := k) (j := k + 1) (by omega) (by omega) (by omega) (by omega) d2 z2 _ _ _ ⟨by simp, by simp, by simp, by simp, by simp⟩ (by simp) fun st q qh => ?_
          rw [hd3] at qh
          exact fin st q qh
        · rw [if_neg hc] at hd3
          have ic : ¬ (2 : Int) ≤ ((b - k : Nat) : Int) := by omega
          refine vc_mono (Q := fun e st => e = .norm ∧ pins n a b k s st ∧ st.hp = [rowsO d3]) ?_ (by simp -dsimp [h0, h1, h2, h7, h8, w5, ic, pins, hd3])
          rintro e st ⟨rfl, q, qh⟩
          exact fin st q qh
      · clear h
        rintro ⟨sl, hp, bs⟩ ⟨x, d2, hx1, hx2, z2, ⟨h0, h1, h2, h7, h8⟩, rfl, he⟩
        have w7 : IntKind.i64.wrap ((s : Int) + 1) = ((s + 1 : Nat) : Int) := by rw [wrap64] <;> omega
        simp -dsimp [h0, h1, h2, h7, h8, w7, g8, pins]
        exact ⟨⟨s + 1, by omega, x, by omega, by omega, d2, z2, ⟨by omega, by omega⟩, rfl, by rw [ht']; exact he⟩, by omega⟩
    · obtain rfl : s = 5 := by omega
      have he : R = (d', false) := he
      simp -dsimp [slices_partialInsertionSortOrdered_int.b0, h0, h1, h2, h7, h8, he]
  · rintro e ⟨sl, hp, bs⟩ (⟨rfl, hf, rfl⟩ | ⟨rfl, h6, rfl⟩)
    · simp -dsimp [hf, slices_partialInsertionSortOrdered_int.rs]
    · simp -dsimp [h6, slices_partialInsertionSortOrdered_int.rs]
end Go.Abs.G

namespace Go.Abs.G
open Go.Proofs
set_option linter.unusedVariables false
set_option linter.unusedSimpArgs false

abbrev vu (n : Nat) : V := .a (.int .u64 (n : Int))
abbrev rndO (r : Nat) : O := .mem false [] [[V.a (.int .u64 (r : Int))]]

theorem wrapu64 (n : Nat) : IntKind.u64.wrap (n : Int) = ((n % 18446744073709551616 : Nat) : Int) := by
  simp [IntKind.wrap, IntKind.bits, IntKind.signed]
theorem bv64 (n : Nat) (h : n < 18446744073709551616) : (BitVec.ofNat 64 n).toNat = n := by
  simp; omega
theorem xor64 (x y : Nat) (hx : x < 18446744073709551616) (hy : y < 18446744073709551616) : IntKind.u64.wrap ((BitVec.ofNat IntKind.u64.bits x ^^^ BitVec.ofNat IntKind.u64.bits y).toNat : Int) = ((x ^^^ y : Nat) : Int) := by
  show IntKind.u64.wrap ((BitVec.ofNat 64 x ^^^ BitVec.ofNat 64 y).toNat : Int) = _
  rw [BitVec.toNat_xor, bv64 x hx, bv64 y hy, wrapu64, Nat.mod_eq_of_lt]
  exact Nat.xor_lt_two_pow (n := 64) hx hy
theorem and64 (x y : Nat) (hx : x < 18446744073709551616) (hy : y < 18446744073709551616) : IntKind.u64.wrap ((BitVec.ofNat IntKind.u64.bits x &&& BitVec.ofNat IntKind.u64.bits y).toNat : Int) = ((x &&& y : Nat) : Int) := by
  show IntKind.u64.wrap ((BitVec.ofNat 64 x &&& BitVec.ofNat 64 y).toNat : Int) = _
  rw [BitVec.toNat_and, bv64 x hx, bv64 y hy, wrapu64, Nat.mod_eq_of_lt]
  exact Nat.lt_of_le_of_lt Nat.and_le_left hx
theorem shl64 (x k : Nat) : IntKind.u64.wrap ((x : Int) * (k : Int)) = ((x * k % 18446744073709551616 : Nat) : Int) := by
  rw [← Int.natCast_mul, wrapu64]
theorem fdivN (x k : Nat) : Int.fdiv (x : Int) (k : Int) = ((x / k : Nat) : Int) := by
  rw [Int.fdiv_eq_ediv_of_nonneg _ (by omega)]; simp

theorem bitsLen_div (x k : Nat) (h : 2 ^ k ≤ x) : Go.Sort.bitsLen x = Go.Sort.bitsLen (x / 2 ^ k) + k := by
  have hx := Go.Sort.lt_two_pow_bitsLen x
  have hk : k ≤ Go.Sort.bitsLen x := by
    refine Nat.le_of_not_lt fun hn => ?_
    have := Nat.pow_lt_pow_right (a := 2) (by omega) hn
    omega
  apply Nat.le_antisymm
  · rw [Go.Sort.bitsLen_le_iff]
    have := Go.Sort.lt_two_pow_bitsLen (x / 2 ^ k)
    rw [Nat.div_lt_iff_lt_mul (Nat.two_pow_pos k)] at this
    rwa [Nat.pow_add]
  · have : Go.Sort.bitsLen (x / 2 ^ k) ≤ Go.Sort.bitsLen x - k := by
      rw [Go.Sort.bitsLen_le_iff, Nat.div_lt_iff_lt_mul (Nat.two_pow_pos k), ← Nat.pow_add, Nat.sub_add_cancel hk]
      exact hx
    omega

theorem xorshift_spec (r : Nat) (h : r < 18446744073709551616) :
    DC Try.prog slices_xorshift_Next.id [.ptr 0 1 0 0] [rndO r] (fun x H => x = vu (Go.Sort.xorNextN r) ∧ H = [rndO (Go.Sort.xorNextN r)]) := by
  refine DC.of slices_xorshift_Next.ok (by simp) ?_
  unfold slices_xorshift_Next.ir
  obtain ⟨a, ha⟩ : ∃ a, a = r ^^^ (r * 8192 % 18446744073709551616) := ⟨_, rfl⟩
  obtain ⟨b, hb⟩ : ∃ b, b = a ^^^ (a / 128) := ⟨_, rfl⟩
  obtain ⟨c, hc⟩ : ∃ c, c = b ^^^ (b * 131072 % 18446744073709551616) := ⟨_, rfl⟩
  have e : Go.Sort.xorNextN r = c := by rw [hc, hb, ha]; rfl
  have la : a < 18446744073709551616 := by rw [ha]; exact Nat.xor_lt_two_pow (n := 64) h (by omega)
  have lb : b < 18446744073709551616 := by rw [hb]; exact Nat.xor_lt_two_pow (n := 64) la (by omega)
  have e1 : IntKind.u64.wrap ((r : Int) * 8192) = _ := shl64 r 8192
  have e2 : Int.fdiv (a : Int) 128 = _ := fdivN a 128
  have e3 : IntKind.u64.wrap ((b : Int) * 131072) = _ := shl64 b 131072
  have x1 := xor64 r (r * 8192 % 18446744073709551616) h (by omega)
  have x2 := xor64 a (a / 128) la (by omega)
  have x3 := xor64 b (b * 131072 % 18446744073709551616) lb (by omega)
  rw [← ha] at x1; rw [← hb] at x2; rw [← hc] at x3
  clear ha hb hc
  rw [e]
  obtain ⟨s1, hs1⟩ : ∃ s1, r * 8192 % 18446744073709551616 = s1 := ⟨_, rfl⟩
  obtain ⟨s2, hs2⟩ : ∃ s2, a / 128 = s2 := ⟨_, rfl⟩
  obtain ⟨s3, hs3⟩ : ∃ s3, b * 131072 % 18446744073709551616 = s3 := ⟨_, rfl⟩
  rw [hs1] at e1 x1; rw [hs2] at e2 x2; rw [hs3] at e3 x3
  have m1 : min 13 IntKind.u64.bits = 13 := rfl
  have m2 : min 7 IntKind.u64.bits = 7 := rfl
  have m3 : min 17 IntKind.u64.bits = 17 := rfl
  refine vc_cut (fun s => gt s.sl 0 = .ptr 0 1 0 0 ∧ s.hp = [rndO r]) (by simp -dsimp) ?_
  rintro ⟨sl, hp, bs⟩ ⟨h0, rfl⟩
  refine vc_cut (fun s => gt s.sl 0 = .ptr 0 1 0 0 ∧ s.hp = [rndO a]) (by simp -dsimp [-BitVec.toNat_xor, h0, m1, e1, x1]) ?_
  rintro ⟨sl, hp, bs⟩ ⟨h0, rfl⟩
  refine vc_cut (fun s => gt s.sl 0 = .ptr 0 1 0 0 ∧ s.hp = [rndO b]) (by simp -dsimp [-BitVec.toNat_xor, h0, m2, e2, x2]) ?_
  rintro ⟨sl, hp, bs⟩ ⟨h0, rfl⟩
  refine vc_cut (fun s => gt s.sl 0 = .ptr 0 1 0 0 ∧ s.hp = [rndO c]) (by simp -dsimp [-BitVec.toNat_xor, h0, m3, e3, x3]) ?_
  rintro ⟨sl, hp, bs⟩ ⟨h0, rfl⟩
  simp -dsimp [h0, slices_xorshift_Next.rs]

theorem len_step (x k : Nat) : ∃ y m : Nat, (2 ^ k ≤ x ∧ y = x / 2 ^ k ∧ m = k ∨ ¬ 2 ^ k ≤ x ∧ y = x ∧ m = 0) ∧ Go.Sort.bitsLen x = Go.Sort.bitsLen y + m := by
  by_cases h : 2 ^ k ≤ x
  · exact ⟨_, _, Or.inl ⟨h, rfl, rfl⟩, bitsLen_div x k h⟩
  · exact ⟨_, _, Or.inr ⟨h, rfl, rfl⟩, rfl⟩

def lenTab : ByteArray := ⟨#[0, 1, 2, 2, 3, 3, 3, 3, 4, 4, 4, 4, 4, 4, 4, 4, 5, 5, 5, 5, 5, 5, 5, 5, 5, 5, 5, 5, 5, 5, 5, 5, 6, 6, 6, 6, 6, 6, 6, 6, 6, 6, 6, 6, 6, 6, 6, 6, 6, 6, 6, 6, 6, 6, 6, 6, 6, 6, 6, 6, 6, 6, 6, 6, 7, 7, 7, 7, 7, 7, 7, 7, 7, 7, 7, 7, 7, 7, 7, 7, 7, 7, 7, 7, 7, 7, 7, 7, 7, 7, 7, 7, 7, 7, 7, 7, 7, 7, 7, 7, 7, 7, 7, 7, 7, 7, 7, 7, 7, 7, 7, 7, 7, 7, 7, 7, 7, 7, 7, 7, 7, 7, 7, 7, 7, 7, 7, 7, 8, 8, 8, 8, 8, 8, 8, 8, 8, 8, 8, 8, 8, 8, 8, 8, 8, 8, 8, 8, 8, 8, 8, 8, 8, 8, 8, 8, 8, 8, 8, 8, 8, 8, 8, 8, 8, 8, 8, 8, 8, 8, 8, 8, 8, 8, 8, 8, 8, 8, 8, 8, 8, 8, 8, 8, 8, 8, 8, 8, 8, 8, 8, 8, 8, 8, 8, 8, 8, 8, 8, 8, 8, 8, 8, 8, 8, 8, 8, 8, 8, 8, 8, 8, 8, 8, 8, 8, 8, 8, 8, 8, 8, 8, 8, 8, 8, 8, 8, 8, 8, 8, 8, 8, 8, 8, 8, 8, 8, 8, 8, 8, 8, 8, 8, 8, 8, 8, 8, 8, 8, 8, 8, 8, 8, 8, 8, 8]⟩

theorem lenTab_size : lenTab.size = 256 := by decide +kernel
theorem lenTab_at : ∀ y, y < 256 → byteAt lenTab y = (Go.Sort.bitsLen y : Int) := by decide +kernel
theorem bitsLen_le64 (x : Nat) (h : x < 18446744073709551616) : Go.Sort.bitsLen x ≤ 64 := (Go.Sort.bitsLen_le_iff x 64).2 h

theorem len64_spec (x : Nat) (h : x < 18446744073709551616) : Pf Try.prog math_bits_Len64.id [vu x] (vi (Go.Sort.bitsLen x)) := by
  refine DC.of math_bits_Len64.ok (by simp) ?_
  unfold math_bits_Len64.ir
  obtain ⟨y, m, hc, hb⟩ := len_step x 32
  obtain ⟨y', m', hc', hb'⟩ := len_step y 16
  obtain ⟨z, n, hd, hb2⟩ := len_step y' 8
  have hx := bitsLen_le64 x h
  refine vc_cut (fun s => gt s.sl 0 = vu x ∧ gt s.sl 2 = vi 0 ∧ s.hp = []) (by simp -dsimp) ?_
  rintro ⟨sl, hp, bs⟩ ⟨h0, h2, rfl⟩
  refine vc_cut (fun s => gt s.sl 0 = vu y ∧ gt s.sl 2 = vi m ∧ s.hp = []) ?_ ?_
  · rcases hc with ⟨c, hy, hm⟩ | ⟨c, hy, hm⟩
    · have i : (4294967296 : Int) ≤ x := by omega
      have e := fdivN x 4294967296
      have mn : min 32 IntKind.u64.bits = 32 := rfl
      have e : Int.fdiv (x : Int) 4294967296 = (y : Int) := by rw [hy]; exact e
      subst hm
      clear hy
      simp -dsimp [h0, h2, i, e, mn]
    · have i : ¬ (4294967296 : Int) ≤ x := by omega
      subst hm
      rw [hy]
      simp -dsimp [h0, h2, i]
  rintro ⟨sl, hp, bs⟩ ⟨h0, h2, rfl⟩
  have ly : y < 4294967296 := by omega
  clear hc
  refine vc_cut (fun s => gt s.sl 0 = vu y' ∧ gt s.sl 2 = vi (m + m' : Nat) ∧ s.hp = []) ?_ ?_
  · rcases hc' with ⟨c, hy, hm⟩ | ⟨c, hy, hm⟩
    · have i : (65536 : Int) ≤ y := by omega
      have e := fdivN y 65536
      have mn : min 16 IntKind.u64.bits = 16 := rfl
      have e : Int.fdiv (y : Int) 65536 = (y' : Int) := by rw [hy]; exact e
      subst hm
      have w : IntKind.i64.wrap ((m : Int) + 16) = (m : Int) + 16 := by rw [wrap64] <;> omega
      clear hy
      simp -dsimp [h0, h2, i, e, mn, w]
    · have i : ¬ (65536 : Int) ≤ y := by omega
      subst hm
      rw [hy]
      simp -dsimp [h0, h2, i]
  rintro ⟨sl, hp, bs⟩ ⟨h0, h2, rfl⟩
  have ly' : y' < 65536 := by omega
  clear hc'
  refine vc_cut (fun s => gt s.sl 0 = vu z ∧ gt s.sl 2 = vi (m + m' + n : Nat) ∧ s.hp = []) ?_ ?_
  · rcases hd with ⟨c, hy, hm⟩ | ⟨c, hy, hm⟩
    · have i : (256 : Int) ≤ y' := by omega
      have e := fdivN y' 256
      have mn : min 8 IntKind.u64.bits = 8 := rfl
      have e : Int.fdiv (y' : Int) 256 = (z : Int) := by rw [hy]; exact e
      subst hm
      have w : IntKind.i64.wrap ((m : Int) + (m' : Int) + 8) = (m : Int) + (m' : Int) + 8 := by rw [wrap64] <;> omega
      clear hy
      simp -dsimp [h0, h2, i, e, mn, w]
    · have i : ¬ (256 : Int) ≤ y' := by omega
      subst hm
      rw [hy]
      simp -dsimp [h0, h2, i]
  rintro ⟨sl, hp, bs⟩ ⟨h0, h2, rfl⟩
  have lz : z < 256 := by omega
  have iz : (z : Int) < 256 := by omega
  clear hd
  have w8 : IntKind.u8.wrap (z : Int) = z := by simp [IntKind.wrap, IntKind.bits, IntKind.signed]; omega
  have t1 := lenTab_at z lz
  have t2 : IntKind.i64.wrap (Go.Sort.bitsLen z : Int) = (Go.Sort.bitsLen z : Int) := by rw [wrap64] <;> omega
  have t3 : IntKind.i64.wrap ((m : Int) + (m' : Int) + (n : Int) + (Go.Sort.bitsLen z : Int)) = (Go.Sort.bitsLen x : Int) := by rw [wrap64] <;> omega
  have ts := lenTab_size
  generalize hL : (ByteArray.mk _) = L
  have hL' : lenTab = L := hL
  rw [hL'] at t1 ts
  simp -dsimp [h0, h2, w8, t1, t2, t3, ts, iz, math_bits_Len64.rs, lz]

theorem len_spec (x : Nat) (h : x < 18446744073709551616) : Pf Try.prog math_bits_Len.id [vu x] (vi (Go.Sort.bitsLen x)) := by
  refine DC.of math_bits_Len.ok (by simp) ?_
  simp -dsimp [↓call_f, ↓vc_cond_false, math_bits_Len.ir]
  refine (len64_spec x h).use ?_
  simp -dsimp [math_bits_Len.rs]

theorem pow2_spec (x : Nat) (h : x < 4611686018427387904) : Pf Try.prog slices_nextPowerOfTwo.id [vi x] (vu (2 ^ Go.Sort.bitsLen x)) := by
  refine DC.of slices_nextPowerOfTwo.ok (by simp) ?_
  have w : IntKind.u64.wrap (x : Int) = x := by rw [wrapu64, Nat.mod_eq_of_lt (by omega)]
  have hk : Go.Sort.bitsLen x ≤ 62 := (Go.Sort.bitsLen_le_iff x 62).2 h
  have hp : 2 ^ Go.Sort.bitsLen x ≤ 2 ^ 62 := Nat.pow_le_pow_right (by omega) hk
  have w2 : IntKind.u64.wrap (((2 : Nat) ^ Go.Sort.bitsLen x : Nat) : Int) = ((2 ^ Go.Sort.bitsLen x : Nat) : Int) := by rw [wrapu64, Nat.mod_eq_of_lt (by omega)]
  have mn : min (Go.Sort.bitsLen x) IntKind.u64.bits = Go.Sort.bitsLen x := by show min (Go.Sort.bitsLen x) 64 = _; omega
  simp -dsimp [↓call_f, slices_nextPowerOfTwo.ir, w]
  refine (len_spec x (by omega)).use ?_
  simp -dsimp [slices_nextPowerOfTwo.rs, mn, ← Int.natCast_pow]
  exact w2
end Go.Abs.G

namespace Go.Abs.G
open Go.Proofs
set_option linter.unusedVariables false
set_option linter.unusedSimpArgs false

/-- k rounds of breakPatterns. -/
def bp (a len : Nat) (d : Array Int) : Nat → UInt64 × Array Int
  | 0 => (UInt64.ofNat len, d)
  | k + 1 => Go.Sort.breakStep a len (1 <<< Go.Sort.bitsLen len) (bp a len d k) (a + len / 4 * 2 - 1 + k)

theorem bp_3 (d : Array Int) (a b : Nat) (h : 8 ≤ b - a) : Go.Sort.breakPatterns d a b = (bp a (b - a) d 3).2 := by
  unfold Go.Sort.breakPatterns
  simp only []
  rw [if_pos h]
  rfl

theorem bp_size (a len : Nat) (d : Array Int) (k : Nat) : (bp a len d k).2.size = d.size := by
  induction k with
  | zero => rfl
  | succ k ih =>
    show (Go.Sort.swp _ _ _).size = _
    rw [swp_size]; exact ih

set_option maxHeartbeats 1000000 in
theorem break_spec (d : Array Int) (a b : Nat) (hab : a + 12 < b) (hb : b ≤ d.size) (hs : d.size ≤ 1152921504606846976) :
    DC Try.prog slices_breakPatternsOrdered_int.id [dataV d.size, vi a, vi b] [rowsO d] (fun r H => ∃ J, H = rowsO (Go.Sort.breakPatterns d a b) :: J) := by
  refine DC.of slices_breakPatternsOrdered_int.ok (by simp) ?_
  rw [bp_3 d a b (by omega)]
  obtain ⟨len, hl⟩ : ∃ len, b - a = len := ⟨_, rfl⟩
  rw [hl]
  obtain ⟨S, hS⟩ : ∃ S, (bp a len d 3).2 = S := ⟨_, rfl⟩
  rw [hS]
  unfold slices_breakPatternsOrdered_int.ir
  have w0 : IntKind.i64.wrap ((b : Int) - a) = (len : Int) := by rw [wrap64] <;> omega
  refine vc_cut (fun s => gt s.sl 0 = dataV d.size ∧ gt s.sl 1 = vi a ∧ gt s.sl 6 = vi len ∧ s.hp = [rowsO d]) (by simp -dsimp [w0]) ?_
  rintro ⟨sl, hp, bs⟩ ⟨h0, h1, h6, rfl⟩
  have i8 : (8 : Int) ≤ len := by omega
  refine vc_cut (fun s => gt s.sl 0 = dataV d.size ∧ gt s.sl 1 = vi a ∧ gt s.sl 6 = vi len ∧ gt s.sl 15 = .bool true ∧ s.hp = [rowsO d]) (by simp -dsimp [h0, h1, h6, i8]) ?_
  rintro ⟨sl, hp, bs⟩ ⟨h0, h1, h6, h15, rfl⟩
  rw [vc_cond_true (by simpa using h15)]
  have wl : IntKind.u64.wrap (len : Int) = len := by rw [wrapu64, Nat.mod_eq_of_lt (by omega)]
  refine vc_cut (fun s => gt s.sl 0 = dataV d.size ∧ gt s.sl 1 = vi a ∧ gt s.sl 6 = vi len ∧ gt s.sl 7 = .ptr 1 1 0 0 ∧ s.hp = [rowsO d, rndO len]) (by simp -dsimp [h0, h1, h6, wl]) ?_
  rintro ⟨sl, hp, bs⟩ ⟨h0, h1, h6, h7, rfl⟩
  obtain ⟨M, hM⟩ : ∃ M, M = 2 ^ Go.Sort.bitsLen len := ⟨_, rfl⟩
  have M1 : 1 ≤ M := by rw [hM]; exact Nat.two_pow_pos _
  have M2 : M ≤ 2 * len := by rw [hM]; exact Go.Sort.two_pow_bitsLen_le (by omega)
  refine vc_cut (fun s => gt s.sl 0 = dataV d.size ∧ gt s.sl 1 = vi a ∧ gt s.sl 6 = vi len ∧ gt s.sl 7 = .ptr 1 1 0 0 ∧ gt s.sl 8 = vu M ∧ s.hp = [rowsO d, rndO len]) ?_ ?_
  · have hp2 := pow2_spec len (by omega)
    rw [← hM] at hp2
    simp -dsimp [↓call_f, h0, h1, h6, h7]
    refine hp2.use ?_
    simp -dsimp [h0, h1, h6, h7]
  rintro ⟨sl, hp, bs⟩ ⟨h0, h1, h6, h7, h8, rfl⟩
  obtain ⟨i0, hi0⟩ : ∃ i0, a + len / 4 * 2 - 1 = i0 := ⟨_, rfl⟩
  have y1 : IntKind.i64.wrap ((len : Int) / 4) = (len : Int) / 4 := by rw [wrap64] <;> omega
  have y2 : IntKind.i64.wrap ((len : Int) / 4 * 2) = (len : Int) / 4 * 2 := by rw [wrap64] <;> omega
  have y3 : IntKind.i64.wrap ((a : Int) + (len : Int) / 4 * 2) = (i0 : Int) + 1 := by rw [wrap64] <;> omega
  have y4 : IntKind.i64.wrap ((i0 : Int) + 1 - 1) = (i0 : Int) := by rw [wrap64] <;> omega
  have y4' : IntKind.i64.wrap (i0 : Int) = (i0 : Int) := by rw [wrap64] <;> omega
  have y5 : IntKind.i64.wrap ((i0 : Int) + 1 + 1) = (i0 : Int) + 2 := by rw [wrap64] <;> omega
  refine vc_cut (fun s => gt s.sl 0 = dataV d.size ∧ gt s.sl 1 = vi a ∧ gt s.sl 6 = vi len ∧ gt s.sl 7 = .ptr 1 1 0 0 ∧ gt s.sl 8 = vu M ∧ gt s.sl 9 = vi i0 ∧ s.hp = [rowsO d, rndO len]) (by simp -dsimp [h0, h1, h6, h7, h8, y1, y2, y3, y4, y4']) ?_
  rintro ⟨sl, hp, bs⟩ ⟨h0, h1, h6, h7, h8, h9, rfl⟩
  have e0 : (bp a len d 0).1.toNat = len := by show (UInt64.ofNat len).toNat = len; simp; omega
  simp -dsimp [↓loop_f]
  refine WI.mono (Q := fun e st => e = .exit 0 ∧ ∃ o, st.hp = [rowsO S, o]) (WI.loop 2 (by simp) (fun st => ∃ k : Nat, k ≤ 3 ∧ gt st.sl 0 = dataV d.size ∧ gt st.sl 1 = vi a ∧ gt st.sl 6 = vi len ∧ gt st.sl 7 = .ptr 1 1 0 0 ∧ gt st.sl 8 = vu M ∧ gt st.sl 9 = vi (i0 + k : Nat) ∧ st.hp = [rowsO (bp a len d k).2, rndO (bp a len d k).1.toNat]) (fun st => ((i0 : Int) + 3 - (gt st.sl 9).num).toNat) ?_ ?_) ?_
  · exact ⟨0, by omega, by simp [h0], by simp [h1], by simp [h6], by simp [h7], by simp [h8], by simp [h9], by rw [e0]; rfl⟩
  · clear h0 h1 h6 h7 h8 h9 e0
    rintro ⟨sl, hp, bs⟩ ⟨k, hk, h0, h1, h6, h7, h8, h9, rfl⟩
    by_cases hk3 : k = 3
    · subst hk3
      have iN : ¬ (i0 : Int) + 3 ≤ (i0 : Int) + 2 := by omega
      simp -dsimp [slices_breakPatternsOrdered_int.b0, h0, h1, h6, h7, h8, h9, y1, y2, y3, y5, iN, hS]
    have hb1 : bp a len d (k + 1) = Go.Sort.breakStep a len (1 <<< Go.Sort.bitsLen len) (bp a len d k) (i0 + k) := by rw [← hi0]; rfl
    obtain ⟨st, hst⟩ : ∃ st, bp a len d k = st := ⟨_, rfl⟩
    obtain ⟨r, dk⟩ := st
    have zk : dk.size = d.size := by have := bp_size a len d k; rw [hst] at this; exact this
    rw [hst] at hb1 ⊢
    simp only
    have lr : r.toNat < 18446744073709551616 := r.toNat_lt
    have xs := xorshift_spec r.toNat lr
    obtain ⟨x, hx⟩ : ∃ x, Go.Sort.xorNext r = x := ⟨_, rfl⟩
    have ex : Go.Sort.xorNextN r.toNat = x.toNat := by rw [← Go.Sort.xorNext_toNat, hx]
    have lx : x.toNat < 18446744073709551616 := x.toNat_lt
    rw [ex] at xs
    obtain ⟨o0, ho0⟩ : ∃ o0, x.toNat &&& (M - 1) = o0 := ⟨_, rfl⟩
    have bo0 : o0 ≤ M - 1 := by rw [← ho0]; exact Nat.and_le_right
    obtain ⟨o1, ho1⟩ : ∃ o1, (if o0 ≥ len then o0 - len else o0) = o1 := ⟨_, rfl⟩
    have bo1 : o1 < len := by rw [← ho1]; split <;> omega
    have step : bp a len d (k + 1) = (x, Go.Sort.swp dk (i0 + k) (a + o1)) := by
      rw [hb1]
      unfold Go.Sort.breakStep
      simp only [hx]
      rw [Nat.shiftLeft_eq, Nat.one_mul, ← hM, ho0, ho1]
    have a1 := and64 x.toNat (M - 1) lx (by omega)
    rw [ho0] at a1
    have m1 : IntKind.u64.wrap ((M : Int) - 1) = ((M - 1 : Nat) : Int) := by
      rw [show (M : Int) - 1 = ((M - 1 : Nat) : Int) by omega, wrapu64, Nat.mod_eq_of_lt (by omega)]
    have wo : IntKind.i64.wrap (o0 : Int) = (o0 : Int) := by rw [wrap64] <;> omega
    obtain ⟨p, hp⟩ : ∃ p, i0 + k = p := ⟨_, rfl⟩
    obtain ⟨q, hq⟩ : ∃ q, a + o1 = q := ⟨_, rfl⟩
    rw [hp, hq] at step
    rw [hp] at h9
    have iY : (p : Int) ≤ (i0 : Int) + 2 := by omega
    obtain ⟨μ0, hμ⟩ : ∃ μ0, ((i0 : Int) + 3 - (gt sl 9).num).toNat = μ0 := ⟨_, rfl⟩
    have hμ' : μ0 = 3 - k := by rw [← hμ, h9]; show ((i0 : Int) + 3 - (p : Int)).toNat = 3 - k; omega
    simp only [hμ]
    clear hμ
    unfold slices_breakPatternsOrdered_int.b0
    refine vc_cut (fun st => gt st.sl 0 = dataV d.size ∧ gt st.sl 1 = vi a ∧ gt st.sl 6 = vi len ∧ gt st.sl 7 = .ptr 1 1 0 0 ∧ gt st.sl 8 = vu M ∧ gt st.sl 9 = vi p ∧ st.hp = [rowsO dk, rndO r.toNat]) (by simp -dsimp [h0, h1, h6, h7, h8, h9, y1, y2, y3, y5, iY]) ?_
    clear h0 h1 h6 h7 h8 h9
    rintro ⟨sl, hp', bs⟩ ⟨h0, h1, h6, h7, h8, h9, rfl⟩
    refine vc_cut (fun st => gt st.sl 0 = dataV d.size ∧ gt st.sl 1 = vi a ∧ gt st.sl 6 = vi len ∧ gt st.sl 7 = .ptr 1 1 0 0 ∧ gt st.sl 8 = vu M ∧ gt st.sl 9 = vi p ∧ st.hp = [rowsO (Go.Sort.swp dk p q), rndO x.toNat]) (vc_block_of ?_) ?_
    · refine vc_cut (fun st => gt st.sl 0 = dataV d.size ∧ gt st.sl 1 = vi a ∧ gt st.sl 6 = vi len ∧ gt st.sl 7 = .ptr 1 1 0 0 ∧ gt st.sl 8 = vu M ∧ gt st.sl 9 = vi p ∧ gt st.sl 10 = vi o0 ∧ st.hp = [rowsO dk, rndO x.toNat]) ?_ ?_
      · simp -dsimp [↓callm_fn, h0, h1, h6, h7, h8, h9]
        refine DC.mono xs fun rr H ⟨hr, hH⟩ => ?_
        subst hr hH
        simp -dsimp [-BitVec.toNat_and, h0, h1, h6, h7, h8, h9, m1, a1, wo]
      clear h0 h1 h6 h7 h8 h9
      rintro ⟨sl, hp', bs⟩ ⟨h0, h1, h6, h7, h8, h9, h10, rfl⟩
      refine vc_cut (fun st => gt st.sl 0 = dataV d.size ∧ gt st.sl 1 = vi a ∧ gt st.sl 6 = vi len ∧ gt st.sl 7 = .ptr 1 1 0 0 ∧ gt st.sl 8 = vu M ∧ gt st.sl 9 = vi p ∧ gt st.sl 10 = vi o1 ∧ st.hp = [rowsO dk, rndO x.toNat]) ?_ ?_
      · by_cases hc : o0 ≥ len
        · rw [if_pos hc] at ho1
          have ic : (len : Int) ≤ o0 := by omega
          have ws : IntKind.i64.wrap ((o0 : Int) - len) = (o1 : Int) := by rw [wrap64] <;> omega
          simp -dsimp [h0, h1, h6, h7, h8, h9, h10, ic, ws]
        · rw [if_neg hc] at ho1
          have ic : ¬ (len : Int) ≤ o0 := by omega
          subst ho1
          simp -dsimp [h0, h1, h6, h7, h8, h9, h10, ic]
      clear h0 h1 h6 h7 h8 h9 h10
      rintro ⟨sl, hp', bs⟩ ⟨h0, h1, h6, h7, h8, h9, h10, rfl⟩
      have wq : IntKind.i64.wrap ((a : Int) + o1) = (q : Int) := by rw [wrap64] <;> omega
      have kp : p < dk.size := by omega
      have kq : q < dk.size := by omega
      have kp' : p < d.size := by omega
      have kq' : q < d.size := by omega
      have hsw := swp_rows dk kp kq
      by_cases hpq : p = q
      · subst hpq
        have hpp : Go.Sort.swp dk p p = dk := by
          apply Array.toList_inj.1
          simp [Go.Sort.swp, get_bang dk kp]
          have := @List.set_getElem_self _ dk.toList p (by simpa using kp)
          simpa using this
        have hsw' : ((dk.toList.map fun n => [V.a (.int .i64 n)]).set p [V.a (.int .i64 dk[p])]) = dk.toList.map fun n => [V.a (.int .i64 n)] := by
          rw [hpp] at hsw; rw [List.set_set] at hsw; exact hsw
        rw [hpp]
        simp -dsimp [h0, h1, h6, h7, h8, h9, h10, wq, kp', kq', zk, List.getElem_set, hsw']
      · simp -dsimp [h0, h1, h6, h7, h8, h9, h10, wq, kp', kq', zk, hpq, List.getElem_set, hsw]
    clear h0 h1 h6 h7 h8 h9
    rintro ⟨sl, hp', bs⟩ ⟨h0, h1, h6, h7, h8, h9, rfl⟩
    have wn : IntKind.i64.wrap ((p : Int) + 1) = (p : Int) + 1 := by rw [wrap64] <;> omega
    simp -dsimp [h0, h1, h6, h7, h8, h9, wn]
    refine ⟨⟨k + 1, by omega, by omega, ?_⟩, by omega⟩
    rw [step]
    exact ⟨rfl, rfl⟩
  · rintro e ⟨sl, hp, bs⟩ ⟨rfl, o, rfl⟩
    simp -dsimp [slices_breakPatternsOrdered_int.rs]
end Go.Abs.G

namespace Go.Abs.G
open Go.Proofs
set_option linter.unusedVariables false
set_option linter.unusedSimpArgs false

theorem swo_int : Go.Sort.SWO Go.Sort.ltInt where
  irrefl x := by simp [Go.Sort.ltInt]
  trans x y z h1 h2 := by simp [Go.Sort.ltInt] at *; omega
  ntrans x y z h1 h2 := by simp [Go.Sort.ltInt] at *; omega

/-- Within [a, b) sorted, the rest as it was. -/
def Srt (a b : Nat) (d d' : Array Int) : Prop := Go.Sort.PermIn a b d d' ∧ Go.Sort.SortedIn Go.Sort.ltInt a b d'

/-- The row comes first. -/
def At0 (H : Heap) (d : Array Int) : Prop := ∃ J, H = rowsO d :: J
theorem At0.mk (d : Array Int) (J : Heap) : At0 (rowsO d :: J) d := ⟨J, rfl⟩

abbrev pdqS (n a b l : Nat) (w p : Bool) (st : St) : Prop := gt st.sl 0 = dataV n ∧ gt st.sl 1 = vi a ∧ gt st.sl 2 = vi b ∧ gt st.sl 3 = vi l ∧ gt st.sl 8 = .bool w ∧ gt st.sl 9 = .bool p

def pdqI (n m a b : Nat) (d : Array Int) (st : St) : Prop := ∃ (a1 b1 l1 : Nat) (w p : Bool) (d1 : Array Int), a1 ≤ b1 ∧ b1 ≤ n ∧ b1 - a1 ≤ m ∧ d1.size = n ∧ l1 ≤ 64 ∧ pdqS n a1 b1 l1 w p st ∧ st.hp = [rowsO d1] ∧ Go.Sort.Below Go.Sort.ltInt a1 b1 d1 ∧ ∀ R, Go.Sort.PermIn a1 b1 d1 R → Go.Sort.SortedIn Go.Sort.ltInt a1 b1 R → Srt a b d R
theorem pdqI.mk {n m a b : Nat} {d : Array Int} {st : St} (a1 b1 l1 : Nat) (w p : Bool) (d1 : Array Int) (h1 : a1 ≤ b1) (h2 : b1 ≤ n) (h3 : b1 - a1 ≤ m) (h4 : d1.size = n) (h5 : l1 ≤ 64) (h6 : pdqS n a1 b1 l1 w p st) (h7 : st.hp = [rowsO d1])
    (h8 : Go.Sort.Below Go.Sort.ltInt a1 b1 d1) (h9 : ∀ R, Go.Sort.PermIn a1 b1 d1 R → Go.Sort.SortedIn Go.Sort.ltInt a1 b1 R → Srt a b d R) : pdqI n m a b d st := ⟨a1, b1, l1, w, p, d1, h1, h2, h3, h4, h5, h6, h7, h8, h9⟩

theorem hintN_inj (h : Go.Sort.Hint) : (hintN h = 2 ↔ h = .decreasing) ∧ (hintN h = 1 ↔ h = .increasing) := by cases h <;> simp [hintN]

set_option maxHeartbeats 2000000 in
theorem pdq_spec : ∀ (m : Nat) (d : Array Int) (a b limit : Nat), b - a ≤ m → a ≤ b → b ≤ d.size → d.size ≤ 1152921504606846976 → limit ≤ 64 → Go.Sort.Below Go.Sort.ltInt a b d →
    DC Try.prog slices_pdqsortOrdered_int.id [dataV d.size, vi a, vi b, vi limit] [rowsO d] (fun r H => ∃ d', At0 H d' ∧ Srt a b d d') := by
  intro m
  induction m using Nat.strongRecOn with
  | _ m IH =>
  intro d a b limit hm hab hb hs hlim hB
  refine DC.of slices_pdqsortOrdered_int.ok (by simp) ?_
  obtain ⟨n, hn⟩ : ∃ n, d.size = n := ⟨_, rfl⟩
  rw [hn] at hb hs ⊢
  unfold slices_pdqsortOrdered_int.ir
  refine vc_cut (fun s => gt s.sl 0 = dataV n ∧ gt s.sl 1 = vi a ∧ gt s.sl 2 = vi b ∧ gt s.sl 3 = vi limit ∧ gt s.sl 8 = .bool true ∧ s.hp = [rowsO d]) (by simp -dsimp) ?_
  rintro ⟨sl, hp, bs⟩ ⟨h0, h1, h2, h3, h8, rfl⟩
  refine vc_cut (fun s => pdqS n a b limit true true s ∧ s.hp = [rowsO d]) (by simp -dsimp [pdqS, h0, h1, h2, h3, h8]) ?_
  clear h0 h1 h2 h3 h8
  rintro ⟨sl, hp, bs⟩ ⟨h, rfl⟩
  simp -dsimp [↓loop_f]
  refine WI.mono (Q := fun e st => e = .ret ∧ ∃ d', At0 st.hp d' ∧ Srt a b d d') (WI.loop 1 (by simp)
    (pdqI n m a b d)
    (fun st => ((gt st.sl 2).num - (gt st.sl 1).num).toNat) ?_ ?_) ?_
  · exact .mk a b limit true true d hab hb hm hn hlim ⟨by simp [h.1], by simp [h.2.1], by simp [h.2.2.1], by simp [h.2.2.2.1], by simp [h.2.2.2.2.1], by simp [h.2.2.2.2.2]⟩ rfl hB fun R h1 h2 => ⟨h1, h2⟩
  · clear h hB hm hab hb hn hlim
    rintro ⟨sl, hp, bs⟩ ⟨a1, b1, l1, w, p, d1, hab, hb, hm, hn, hlim, ⟨h0, h1, h2, h3, h8, h9⟩, rfl, hB, hG⟩
    obtain ⟨len, hl⟩ : ∃ len, b1 - a1 = len := ⟨_, rfl⟩
    have w0 : IntKind.i64.wrap ((b1 : Int) - a1) = (len : Int) := by rw [wrap64] <;> omega
    obtain ⟨μ0, hμ⟩ : ∃ μ0, ((gt sl 2).num - (gt sl 1).num).toNat = μ0 := ⟨_, rfl⟩
    have hμ' : μ0 = len := by rw [← hμ, h1, h2]; show ((b1 : Int) - (a1 : Int)).toNat = len; omega
    simp only [hμ]
    clear hμ
    unfold slices_pdqsortOrdered_int.b0
    refine vc_block_of (vc_cut (fun st => pdqS n a1 b1 l1 w p st ∧ gt st.sl 10 = vi len ∧ st.hp = [rowsO d1]) (by simp -dsimp [pdqS, h0, h1, h2, h3, h8, h9, w0]) ?_)
    clear h0 h1 h2 h3 h8 h9
    rintro ⟨sl, hp, bs⟩ ⟨⟨h0, h1, h2, h3, h8, h9⟩, h10, rfl⟩
    by_cases h12 : len ≤ 12
    · have i12 : (len : Int) ≤ 12 := by omega
      have sp := insertion_spec d1 a1 b1 (by omega) (by omega) (by omega)
      have st1 := Go.Sort.insertionSort_holds (lt := Go.Sort.ltInt) swo_int d1 a1 b1 hab (by omega)
      rw [hn] at sp
      refine vc_cut (fun _ => False) ?_ (fun _ h => h.elim)
      simp -dsimp [↓callm_fn, h0, h1, h2, h3, h8, h9, h10, i12]
      refine DC.mono sp fun rr H hH => ?_
      subst hH
      simp -dsimp [h0, h1, h2, h3, h8, h9, h10]
      exact ⟨_, .mk _ _, hG _ st1.1 st1.2⟩
    have i12 : ¬ (len : Int) ≤ 12 := by omega
    refine vc_cut (fun st => pdqS n a1 b1 l1 w p st ∧ gt st.sl 10 = vi len ∧ st.hp = [rowsO d1]) (by simp -dsimp [pdqS, h0, h1, h2, h3, h8, h9, h10, i12]) ?_
    clear h0 h1 h2 h3 h8 h9 h10
    rintro ⟨sl, hp, bs⟩ ⟨⟨h0, h1, h2, h3, h8, h9⟩, h10, rfl⟩
    by_cases hl0 : l1 = 0
    · have i0 : (l1 : Int) = 0 := by omega
      have sp := heap_spec d1 a1 b1 (by omega) (by omega) (by omega)
      have st1 := Go.Sort.heapSort_holds (lt := Go.Sort.ltInt) swo_int d1 a1 b1 hab (by omega)
      rw [hn] at sp
      refine vc_cut (fun _ => False) ?_ (fun _ h => h.elim)
      simp -dsimp [↓callm_fn, h0, h1, h2, h3, h8, h9, h10, i0, hl0]
      refine DC.mono sp fun rr H hH => ?_
      subst hH
      simp -dsimp [h0, h1, h2, h3, h8, h9, h10]
      exact ⟨_, .mk _ _, hG _ st1.1 st1.2⟩
    have i0 : ¬ (l1 : Int) = 0 := by omega
    refine vc_cut (fun st => pdqS n a1 b1 l1 w p st ∧ gt st.sl 10 = vi len ∧ st.hp = [rowsO d1]) (by simp -dsimp [pdqS, h0, h1, h2, h3, h8, h9, h10, i0, hl0]) ?_
    clear h0 h1 h2 h3 h8 h9 h10
    rintro ⟨sl, hp, bs⟩ ⟨⟨h0, h1, h2, h3, h8, h9⟩, h10, rfl⟩
    -- breakPatterns
    refine vc_cut (fun st => ∃ (l2 : Nat) (d2 : Array Int), l2 ≤ 64 ∧ Go.Sort.PermIn a1 b1 d1 d2 ∧ pdqS n a1 b1 l2 w p st ∧ gt st.sl 10 = vi len ∧ At0 st.hp d2) ?_ ?_
    · cases w with
      | true =>
        simp -dsimp [h0, h1, h2, h3, h8, h9, h10, pdqS]
        exact ⟨l1, hlim, d1, Go.Sort.permIn_refl _ _ _, by omega, .mk _ _⟩
      | false =>
        have sp := break_spec d1 a1 b1 (by omega) (by omega) (by omega)
        rw [hn] at sp
        have wl : IntKind.i64.wrap ((l1 : Int) - 1) = ((l1 - 1 : Nat) : Int) := by rw [wrap64] <;> omega
        simp -dsimp [↓callm_fn, h0, h1, h2, h3, h8, h9, h10]
        refine DC.mono sp fun rr H ⟨J, hH⟩ => ?_
        subst hH
        simp -dsimp [h0, h1, h2, h3, h8, h9, h10, wl, pdqS]
        exact ⟨l1 - 1, by omega, _, Go.Sort.breakPatterns_holds _ _ _ hab (by omega), by omega, .mk _ _⟩
    clear h0 h1 h2 h3 h8 h9 h10
    rintro ⟨sl, hp, bs⟩ ⟨l2, d2, hl2, hp2, ⟨h0, h1, h2, h3, h8, h9⟩, h10, J, rfl⟩
    have z2 : d2.size = n := by rw [hp2.1, hn]
    have B2 := hB.perm (by omega) hp2
    -- choosePivot
    have cr := Go.Sort.choosePivot_holds Go.Sort.ltInt d2 a1 b1 (by omega)
    have cs := choosePivot_spec d2 a1 b1 (by omega) (by omega) (by omega)
    obtain ⟨c, hc⟩ : ∃ c, Go.Sort.choosePivot Go.Sort.ltInt d2 a1 b1 = c := ⟨_, rfl⟩
    rw [hc] at cr cs
    rw [z2] at cs
    obtain ⟨pv, hint⟩ := c
    refine vc_cut (fun st => pdqS n a1 b1 l2 w p st ∧ gt st.sl 10 = vi len ∧ gt st.sl 11 = vi pv ∧ gt st.sl 12 = vi (hintN hint) ∧ At0 st.hp d2) ?_ ?_
    · simp -dsimp [↓callm_fn, h0, h1, h2, h3, h8, h9, h10]
      refine DC.mono cs fun rr H ⟨hr, o, hH⟩ => ?_
      subst hr hH
      simp -dsimp [h0, h1, h2, h3, h8, h9, h10, pdqS]
      exact .mk _ _
    clear h0 h1 h2 h3 h8 h9 h10
    rintro ⟨sl, hp, bs⟩ ⟨⟨h0, h1, h2, h3, h8, h9⟩, h10, h11, h12', J1, rfl⟩
    simp only at cr
    -- reverse
    refine vc_cut (fun st => ∃ (d3 : Array Int) (pv' hint' : Nat), Go.Sort.PermIn a1 b1 d1 d3 ∧ a1 ≤ pv' ∧ pv' < b1 ∧ pdqS n a1 b1 l2 w p st ∧ gt st.sl 10 = vi len ∧ gt st.sl 11 = vi pv' ∧ gt st.sl 12 = vi hint' ∧ At0 st.hp d3) ?_ ?_
    · by_cases hd : hint = .decreasing
      · have i2 : hintN hint = 2 := by rw [hd]; rfl
        have sp := reverse_spec d2 a1 b1 (by omega) (by omega) (by omega)
        rw [z2] at sp
        have v1 : IntKind.i64.wrap ((b1 : Int) - 1) = (b1 : Int) - 1 := by rw [wrap64] <;> omega
        have v2 : IntKind.i64.wrap ((pv : Int) - a1) = (pv : Int) - a1 := by rw [wrap64] <;> omega
        have v3 : IntKind.i64.wrap ((b1 : Int) - 1 - ((pv : Int) - a1)) = (((b1 - 1) - (pv - a1) : Nat) : Int) := by rw [wrap64] <;> omega
        rw [i2] at h12'
        simp -dsimp [↓callm_fn, h0, h1, h2, h3, h8, h9, h10, h11, h12']
        refine DC.mono sp fun rr H hH => ?_
        subst hH
        obtain ⟨q, hq⟩ : ∃ q : Nat, (b1 - 1) - (pv - a1) = q := ⟨_, rfl⟩
        rw [hq] at v3
        simp -dsimp [h0, h1, h2, h3, h8, h9, h10, h11, v1, v2, v3, pdqS]
        exact ⟨_, Go.Sort.permIn_trans _ _ _ _ _ hp2 (Go.Sort.reverseRange_holds d2 a1 b1 hab (by omega)), q, by omega, by omega, by omega, ⟨1, rfl⟩, .mk _ _⟩
      · have i2 : ¬ hintN hint = 2 := fun h => hd ((hintN_inj hint).1.1 h)
        have hnn : ∃ k : Nat, hintN hint = k := by
          cases hint
          · exact ⟨0, rfl⟩
          · exact ⟨1, rfl⟩
          · exact ⟨2, rfl⟩
        obtain ⟨k, hk⟩ := hnn
        rw [hk] at h12' i2
        have i2 : ¬ (k : Int) = 2 := i2
        simp -dsimp [h0, h1, h2, h3, h8, h9, h10, h11, h12', i2, pdqS]
        exact ⟨d2, hp2, pv, by omega, by omega, by omega, ⟨k, by omega⟩, .mk _ _⟩
    clear h0 h1 h2 h3 h8 h9 h10 h11 h12' cs hc cr
    rintro ⟨sl, hp, bs⟩ ⟨d3, pv', hint', hp3, hpa, hpb, ⟨h0, h1, h2, h3, h8, h9⟩, h10, h11, h12', J3, rfl⟩
    have z3 : d3.size = n := by rw [hp3.1, hn]
    have B3 := hB.perm (by omega) hp3
    -- partialInsertionSort
    refine vc_cut (fun st => ∃ (d4 : Array Int), Go.Sort.PermIn a1 b1 d1 d4 ∧ pdqS n a1 b1 l2 w p st ∧ gt st.sl 10 = vi len ∧ gt st.sl 11 = vi pv' ∧ At0 st.hp d4) ?_ ?_
    · by_cases hc : (w = true ∧ p = true) ∧ hint' = 1
      · obtain ⟨⟨rfl, rfl⟩, rfl⟩ := hc
        have sp := pins_spec d3 a1 b1 (by omega) (by omega) (by omega)
        have st1 := Go.Sort.partialInsertionSort_holds (lt := Go.Sort.ltInt) swo_int d3 a1 b1 (by omega) (by omega) B3
        rw [z3] at sp
        simp -dsimp [↓callm_fn, h0, h1, h2, h3, h8, h9, h10, h11, h12']
        refine DC.mono sp fun rr H ⟨hr, hH⟩ => ?_
        subst hr hH
        obtain ⟨⟨d4, ok⟩, he⟩ : ∃ x, Go.Sort.partialInsertionSort Go.Sort.ltInt d3 a1 b1 = x := ⟨_, rfl⟩
        rw [he] at st1 ⊢
        cases ok with
        | true =>
          simp -dsimp [h0, h1, h2, h3, h8, h9, h10, h11]
          exact ⟨d4, .mk _ _, hG _ (Go.Sort.permIn_trans _ _ _ _ _ hp3 st1.1) (st1.2 rfl)⟩
        | false =>
          simp -dsimp [h0, h1, h2, h3, h8, h9, h10, h11, pdqS]
          exact ⟨d4, Go.Sort.permIn_trans _ _ _ _ _ hp3 st1.1, .mk _ _⟩
      · by_cases hw : w = true
        · subst hw
          by_cases hpp : p = true
          · subst hpp
            have i1 : ¬ (hint' : Int) = 1 := by have : ¬ hint' = 1 := fun h => hc ⟨⟨rfl, rfl⟩, h⟩; omega
            simp -dsimp [h0, h1, h2, h3, h8, h9, h10, h11, h12', i1, pdqS]
            exact ⟨d3, hp3, .mk _ _⟩
          · have hpp : p = false := by simpa using hpp
            subst hpp
            simp -dsimp [h0, h1, h2, h3, h8, h9, h10, h11, h12', pdqS]
            exact ⟨d3, hp3, .mk _ _⟩
        · have hw : w = false := by simpa using hw
          subst hw
          simp -dsimp [h0, h1, h2, h3, h8, h9, h10, h11, h12', pdqS]
          exact ⟨d3, hp3, .mk _ _⟩
    clear h0 h1 h2 h3 h8 h9 h10 h11 h12' hp3 z3 B3 J3 B2 hp2 z2 J1 J
    rintro ⟨sl, hp, bs⟩ ⟨d4, hp4, ⟨h0, h1, h2, h3, h8, h9⟩, h10, h11, J4, rfl⟩
    have z4 : d4.size = n := by rw [hp4.1, hn]
    have B4 := hB.perm (by omega) hp4
    have hG4 : ∀ R, Go.Sort.PermIn a1 b1 d4 R → Go.Sort.SortedIn Go.Sort.ltInt a1 b1 R → Srt a b d R := fun R h1 h2 => hG R (Go.Sort.permIn_trans _ _ _ _ _ hp4 h1) h2
    clear hG hB hp4 hn d1 d3 d2
    -- equal
    have kp : pv' < d4.size := by omega
    have kp' : pv' < n := by omega
    refine vc_cut (fun st => pdqS n a1 b1 l2 w p st ∧ gt st.sl 10 = vi len ∧ gt st.sl 11 = vi pv' ∧ st.hp = rowsO d4 :: J4) ?_ ?_
    · by_cases ha0 : 0 < a1
      · have i1 : (0 : Int) < a1 := by omega
        have v1 : IntKind.i64.wrap ((a1 : Int) - 1) = ((a1 - 1 : Nat) : Int) := by rw [wrap64] <;> omega
        have k1 : a1 - 1 < d4.size := by omega
        have k1' : a1 - 1 < n := by omega
        obtain ⟨e, he⟩ : ∃ e, a1 - 1 = e := ⟨_, rfl⟩
        rw [he] at v1 k1 k1'
        by_cases hlt : Go.Sort.ltInt d4[e] d4[pv'] = true
        · simp -dsimp [↓call_f, h0, h1, h2, h3, h8, h9, h10, h11, i1, ha0, v1, k1', kp', z4]
          refine (less_spec d4[e] d4[pv']).use ?_
          simp -dsimp [hlt, h0, h1, h2, h3, h8, h9, h10, h11, pdqS]
        · have hlt : Go.Sort.ltInt d4[e] d4[pv'] = false := by simpa using hlt
          have sp := partEq_spec d4 a1 b1 pv' hpa hpb (by omega) (by omega) (by omega)
          obtain ⟨⟨mid, d5⟩, hx⟩ : ∃ x, Go.Sort.partitionEqual Go.Sort.ltInt d4 a1 b1 pv' = x := ⟨_, rfl⟩
          have rq := Go.Sort.round_eq swo_int (Go.Sort.partitionEqual_holds Go.Sort.ltInt) ha0 hpa hpb (by omega) B4 (by rw [he, get_bang d4 k1, get_bang d4 kp]; exact hlt) hx
          rw [hx, z4] at sp
          simp -dsimp [↓call_f, h0, h1, h2, h3, h8, h9, h10, h11, i1, ha0, v1, k1', kp', z4]
          refine (less_spec d4[e] d4[pv']).use ?_
          simp -dsimp [↓callm_fn, hlt, h0, h1, h2, h3, h8, h9, h10, h11]
          refine DC.mono sp fun rr H ⟨hr, hH⟩ => ?_
          subst hr hH
          simp -dsimp [h0, h1, h2, h3, h8, h9, h10, h11]
          obtain ⟨r1, r2, r3, r4, r5⟩ := rq
          exact ⟨.mk mid b1 l2 w p d5 (by omega) (by omega) (by omega) (by omega) hl2 ⟨by simp, by simp, by simp, by simp, by simp, by simp⟩ (by simp) r4 fun R h1 h2 => hG4 R (r5 R h1 h2).1 (r5 R h1 h2).2, by omega⟩
      · have i1 : ¬ (0 : Int) < a1 := by omega
        simp -dsimp [h0, h1, h2, h3, h8, h9, h10, h11, i1, ha0, pdqS]
    clear h0 h1 h2 h3 h8 h9 h10 h11
    rintro ⟨sl, hp, bs⟩ ⟨⟨h0, h1, h2, h3, h8, h9⟩, h10, h11, rfl⟩
    -- partition
    have sp := partition_spec d4 a1 b1 pv' hpa hpb (by omega) (by omega) (by omega)
    obtain ⟨⟨mid, al, d5⟩, hx⟩ : ∃ x, Go.Sort.partition Go.Sort.ltInt d4 a1 b1 pv' = x := ⟨_, rfl⟩
    obtain ⟨r1, r2, r3, r4, r5, r6, r7⟩ := Go.Sort.round_part swo_int (Go.Sort.partition_holds Go.Sort.ltInt) hpa hpb (by omega) B4 hx
    rw [hx, z4] at sp
    have z5 : d5.size = n := by omega
    refine vc_cut (fun st => gt st.sl 0 = dataV n ∧ gt st.sl 1 = vi a1 ∧ gt st.sl 2 = vi b1 ∧ gt st.sl 3 = vi l2 ∧ gt st.sl 10 = vi len ∧ gt st.sl 14 = vi mid ∧ gt st.sl 15 = .bool al ∧ At0 st.hp d5) ?_ ?_
    · simp -dsimp [↓callm_fn, h0, h1, h2, h3, h8, h9, h10, h11]
      refine DC.mono sp fun rr H ⟨hr, hH⟩ => ?_
      subst hr hH
      simp -dsimp [h0, h1, h2, h3, h8, h9, h10, h11]
      exact .mk _ _
    clear h0 h1 h2 h3 h8 h9 h10 h11
    rintro ⟨sl, hp, bs⟩ ⟨h0, h1, h2, h3, h10, h14, h15, J5, rfl⟩
    refine vc_cut (fun st => gt st.sl 0 = dataV n ∧ gt st.sl 1 = vi a1 ∧ gt st.sl 2 = vi b1 ∧ gt st.sl 3 = vi l2 ∧ gt st.sl 9 = .bool al ∧ gt st.sl 10 = vi len ∧ gt st.sl 14 = vi mid ∧ st.hp = rowsO d5 :: J5) (by simp -dsimp [h0, h1, h2, h3, h10, h14, h15]) ?_
    clear h0 h1 h2 h3 h10 h14 h15
    rintro ⟨sl, hp, bs⟩ ⟨h0, h1, h2, h3, h9, h10, h14, rfl⟩
    obtain ⟨L, hL⟩ : ∃ L, mid - a1 = L := ⟨_, rfl⟩
    obtain ⟨Rr, hRr⟩ : ∃ L, b1 - mid = L := ⟨_, rfl⟩
    have u1 : IntKind.i64.wrap ((mid : Int) - a1) = (L : Int) := by rw [wrap64] <;> omega
    have u2 : IntKind.i64.wrap ((b1 : Int) - mid) = (Rr : Int) := by rw [wrap64] <;> omega
    refine vc_cut (fun st => gt st.sl 0 = dataV n ∧ gt st.sl 1 = vi a1 ∧ gt st.sl 2 = vi b1 ∧ gt st.sl 3 = vi l2 ∧ gt st.sl 9 = .bool al ∧ gt st.sl 10 = vi len ∧ gt st.sl 14 = vi mid ∧ gt st.sl 16 = vi L ∧ gt st.sl 17 = vi Rr ∧ st.hp = rowsO d5 :: J5) (by simp -dsimp [h0, h1, h2, h3, h9, h10, h14, u1, u2]) ?_
    clear h0 h1 h2 h3 h9 h10 h14
    rintro ⟨sl, hp, bs⟩ ⟨h0, h1, h2, h3, h9, h10, h14, h16, h17, rfl⟩
    have u3 : IntKind.i64.wrap ((len : Int) / 8) = ((len / 8 : Nat) : Int) := by rw [wrap64] <;> omega
    obtain ⟨e8, he8⟩ : ∃ e8, len / 8 = e8 := ⟨_, rfl⟩
    rw [he8] at u3
    refine vc_cut (fun st => gt st.sl 0 = dataV n ∧ gt st.sl 1 = vi a1 ∧ gt st.sl 2 = vi b1 ∧ gt st.sl 3 = vi l2 ∧ gt st.sl 9 = .bool al ∧ gt st.sl 14 = vi mid ∧ gt st.sl 16 = vi L ∧ gt st.sl 17 = vi Rr ∧ gt st.sl 18 = vi e8 ∧ st.hp = rowsO d5 :: J5) (by simp -dsimp [h0, h1, h2, h3, h9, h10, h14, h16, h17, u3]) ?_
    clear h0 h1 h2 h3 h9 h10 h14 h16 h17
    rintro ⟨sl, hp, bs⟩ ⟨h0, h1, h2, h3, h9, h14, h16, h17, h18, rfl⟩
    have v4 : IntKind.i64.wrap ((mid : Int) + 1) = ((mid + 1 : Nat) : Int) := by rw [wrap64] <;> omega
    have v4' : IntKind.i64.wrap ((mid : Int) + 1) = (mid : Int) + 1 := by rw [wrap64] <;> omega
    by_cases hLR : L < Rr
    · have iLR : (L : Int) < Rr := by omega
      have ih := IH (mid - a1) (by omega) d5 a1 mid l2 (Nat.le_refl _) r1 (by omega) (by omega) hl2 r4
      rw [z5] at ih
      simp -dsimp [↓callm_fn, h0, h1, h2, h3, h9, h14, h16, h17, h18, iLR]
      refine DC.mono ih fun rr H ⟨dL, ⟨K, hH⟩, hS⟩ => ?_
      subst hH
      obtain ⟨q1, q2⟩ := r6 dL hS.1 hS.2
      have zL : dL.size = n := by rw [hS.1.1, z5]
      simp -dsimp [h0, h1, h2, h3, h9, h14, h16, h17, h18, v4']
      exact ⟨.mk (mid + 1) b1 l2 (decide (e8 ≤ L)) al dL (by omega) (by omega) (by omega) zL hl2 ⟨by simp, by simp, by simp, by simp, by simp, by simp⟩ (by simp) q1 fun R h1 h2 => hG4 R (q2 R h1 h2).1 (q2 R h1 h2).2, by omega⟩
    · have iLR : ¬ (L : Int) < Rr := by omega
      have ih := IH (b1 - (mid + 1)) (by omega) d5 (mid + 1) b1 l2 (Nat.le_refl _) (by omega) (by omega) (by omega) hl2 r5
      rw [z5] at ih
      simp -dsimp [↓callm_fn, h0, h1, h2, h3, h9, h14, h16, h17, h18, iLR, v4']
      refine DC.mono ih fun rr H ⟨dL, ⟨K, hH⟩, hS⟩ => ?_
      subst hH
      obtain ⟨q1, q2⟩ := r7 dL hS.1 hS.2
      have zL : dL.size = n := by rw [hS.1.1, z5]
      simp -dsimp [h0, h1, h2, h3, h9, h14, h16, h17, h18, v4']
      exact ⟨.mk a1 mid l2 (decide (e8 ≤ Rr)) al dL (by omega) (by omega) (by omega) zL hl2 ⟨by simp, by simp, by simp, by simp, by simp, by simp⟩ (by simp) q1 fun R h1 h2 => hG4 R (q2 R h1 h2).1 (q2 R h1 h2).2, by omega⟩
  · rintro e ⟨sl, hp, bs⟩ ⟨rfl, d', h, hS⟩
    simp -dsimp [slices_pdqsortOrdered_int.rs]
    exact ⟨d', h, hS⟩

theorem sort_spec (d : Array Int) (hs : d.size ≤ 1152921504606846976) :
    DC Try.prog slices_Sort_Lint_int.id [dataV d.size] [rowsO d] (fun r H => At0 H (d.toList.mergeSort (fun x y => decide (x ≤ y))).toArray) := by
  refine DC.of slices_Sort_Lint_int.ok (by simp) ?_
  have lb := bitsLen_le64 d.size (by omega)
  have wl : IntKind.u64.wrap (d.size : Int) = d.size := by rw [wrapu64, Nat.mod_eq_of_lt (by omega)]
  simp -dsimp [↓call_f, slices_Sort_Lint_int.ir, wl]
  refine (len_spec d.size (by omega)).use ?_
  simp -dsimp [↓callm_fn]
  refine DC.mono (pdq_spec d.size d 0 d.size (Go.Sort.bitsLen d.size) (by omega) (by omega) (by omega) hs lb (Or.inl rfl)) fun rr H ⟨d', ⟨J, hH⟩, hS⟩ => ?_
  subst hH
  have e := Go.Sort.sorted_unique_holds (lt := Go.Sort.ltInt) swo_int (fun x y h1 h2 => by simp [Go.Sort.ltInt] at *; omega) d d' hS.1 (by rw [← hS.1.1] at *; exact hS.2)
  have e2 : (fun x y : Int => !Go.Sort.ltInt y x) = fun x y => decide (x ≤ y) := by
    funext x y
    simp only [Go.Sort.ltInt]
    by_cases h : x ≤ y
    · have : ¬ y < x := by omega
      simp [h, this]
    · have : y < x := by omega
      simp [h, this]
  rw [e2] at e
  simp -dsimp [slices_Sort_Lint_int.rs]
  rw [← e]
  exact .mk _ _
end Go.Abs.G

namespace Go.Abs.G
open Go.Proofs
set_option linter.unusedVariables false
set_option linter.unusedSimpArgs false

theorem set_rows1 (d : Array Int) (k : Nat) (v : Int) : (d.toList.map fun n => [V.a (.int .i64 n)]).set k [V.a (.int .i64 v)] = (d.setIfInBounds k v).toList.map fun n => [V.a (.int .i64 n)] := by simp [List.map_set]

/-- No two neighbours are the same, so far. -/
def Unlike (d : Array Int) (k : Nat) : Prop := ∀ i, i + 1 < k → d[i + 1]! ≠ d[i]!

set_option maxRecDepth 8000 in
/-- The inner loop: one is left out at least. -/
theorem compact_inner {n k0 l2 : Nat} (hs : n ≤ 1152921504606846976) (hk : k0 < n) (hl2 : k0 + l2 = n) (d : Array Int) (hd : d.size = n) (Q : Ex → St → Prop) (sl : Sl) (bs : Nat)
    (h0 : gt sl 0 = dataV n) (h3 : gt sl 3 = vi k0) (h4 : gt sl 4 = .own 0 1 k0 l2 n) (h5 : gt sl 5 = vi 1)
    (hq : ∀ (s : St) (m : Nat) (d' : Array Int), d'.size = n → m < n → gt s.sl 0 = dataV n → gt s.sl 3 = vi m → s.hp = [rowsO d'] → Q (.exit 2) s) :
    WI Try.prog (.loop slices_Compact_Lint_int.b1) Q ⟨sl, [rowsO d], bs⟩ := by
  refine WI.loop 1 (by simp) (fun s => ∃ (j m : Nat) (d' : Array Int), 1 ≤ j ∧ j ≤ l2 ∧ k0 ≤ m ∧ m + 1 ≤ k0 + j ∧ d'.size = n ∧ gt s.sl 0 = dataV n ∧ gt s.sl 3 = vi m ∧ gt s.sl 4 = .own 0 1 k0 l2 n ∧ gt s.sl 5 = vi j ∧ s.hp = [rowsO d']) (fun s => (l2 - (gt s.sl 5).num).toNat) ?_ ?_
  · exact ⟨1, k0, d, by omega, by omega, by omega, by omega, hd, h0, h3, h4, h5, rfl⟩
  · clear h0 h3 h4 h5 hd
    rintro ⟨sl, hp, bs⟩ ⟨j, m, d', hj1, hj, hm1, hm2, hd, h0, h3, h4, h5, rfl⟩
    by_cases hjl : j < l2
    · have i1 : (j : Int) < (l2 : Int) := by omega
      have w1 : IntKind.i64.wrap ((j : Int) - 1) = ((j - 1 : Nat) : Int) := by rw [wrap64] <;> omega
      have w2 : IntKind.i64.wrap ((j : Int) + 1) = ((j + 1 : Nat) : Int) := by rw [wrap64] <;> omega
      have w3 : IntKind.i64.wrap ((m : Int) + 1) = ((m + 1 : Nat) : Int) := by rw [wrap64] <;> omega
      have b1 : k0 + j < d'.size := by omega
      have b2 : k0 + (j - 1) < d'.size := by omega
      have b1' : k0 + j < n := by omega
      have b2' : k0 + (j - 1) < n := by omega
      have b3 : m < n := by omega
      have b3' : m < d'.size := by omega
      obtain ⟨j1, hj1'⟩ : ∃ j1, j - 1 = j1 := ⟨_, rfl⟩
      rw [hj1'] at w1 b2 b2'
      have b4 : j1 < l2 := by omega
      have b4' : (j1 : Int) < (l2 : Int) := by omega
      obtain ⟨μ0, hμ⟩ : ∃ μ0, ((l2 : Int) - (gt sl 5).num).toNat = μ0 := ⟨_, rfl⟩
      have hμ' : μ0 = l2 - j := by rw [← hμ, h5]; show ((l2 : Int) - (j : Int)).toNat = _; omega
      simp only [hμ]
      clear hμ
      unfold slices_Compact_Lint_int.b1
      refine vc_cut (fun s => gt s.sl 0 = dataV n ∧ gt s.sl 3 = vi m ∧ gt s.sl 4 = .own 0 1 k0 l2 n ∧ gt s.sl 5 = vi j ∧ s.hp = [rowsO d']) (by simp -dsimp [h0, h3, h4, h5, i1, hjl, hd]) ?_
      clear h0 h3 h4 h5
      rintro ⟨sl, hp, bs⟩ ⟨h0, h3, h4, h5, rfl⟩
      refine vc_cut (fun s => ∃ (m' : Nat) (d2 : Array Int), k0 ≤ m' ∧ m' + 1 ≤ k0 + (j + 1) ∧ d2.size = n ∧ gt s.sl 0 = dataV n ∧ gt s.sl 3 = vi m' ∧ gt s.sl 4 = .own 0 1 k0 l2 n ∧ gt s.sl 5 = vi j ∧ s.hp = [rowsO d2]) (vc_block_of ?_) ?_
      · obtain ⟨x, hx⟩ : ∃ x, d'[k0 + j] = x := ⟨_, rfl⟩
        obtain ⟨y, hy⟩ : ∃ y, d'[k0 + j1] = y := ⟨_, rfl⟩
        have gx : (d'.toList.map fun n => [V.a (.int .i64 n)])[k0 + j]? = some [V.a (.int .i64 x)] := by simp [← hx, b1]
        have gy : (d'.toList.map fun n => [V.a (.int .i64 n)])[k0 + j1]? = some [V.a (.int .i64 y)] := by simp [← hy, b2]
        refine vc_cut (fun s => gt s.sl 0 = dataV n ∧ gt s.sl 3 = vi m ∧ gt s.sl 4 = .own 0 1 k0 l2 n ∧ gt s.sl 5 = vi j ∧ gt s.sl 44 = .bool (x != y) ∧ s.hp = [rowsO d']) ?_ ?_
        · simp -dsimp [h0, h3, h4, h5, hjl, i1, w1, b4, b4', hd, hx, hy, b1', b2']
        clear h0 h3 h4 h5
        rintro ⟨sl, hp, bs⟩ ⟨h0, h3, h4, h5, h44, rfl⟩
        by_cases he : x = y
        · simp -dsimp [h0, h3, h4, h5, h44, he]
          exact ⟨m, by omega, by omega, d', hd, by omega, rfl⟩
        · simp -dsimp [h0, h3, h4, h5, h44, hjl, gx, b1', b4, b3, hd, hx, he, w3]
          exact ⟨m + 1, by omega, by omega, d'.setIfInBounds m x, by simpa using hd, by omega, set_rows1 _ _ _⟩
      clear h0 h3 h4 h5
      rintro ⟨sl, hp, bs⟩ ⟨m', d2, g1, g2, g3, h0, h3, h4, h5, rfl⟩
      simp -dsimp [h0, h3, h4, h5, w2]
      exact ⟨⟨j + 1, by omega, by omega, m', by omega, by omega, d2, g3, by omega, by omega, rfl⟩, by omega⟩
    · have i1 : ¬ (j : Int) < (l2 : Int) := by omega
      simp -dsimp [slices_Compact_Lint_int.b1, h0, h3, h4, h5, i1, hjl, hd]
      exact hq _ m d' hd (by omega) (by simp) (by simp) (by simp)

set_option maxHeartbeats 1000000 in
theorem compact_spec (d : Array Int) (hs : d.size ≤ 1152921504606846976) :
    DC Try.prog slices_Compact_Lint_int.id [dataV d.size] [rowsO d] (fun r H => ∃ (m : Nat) (rows : List (List V)), r = .own 0 1 0 m d.size ∧ H = [.mem false [] rows] ∧ rows.length = d.size ∧ m ≤ d.size ∧ (m = d.size ↔ Unlike d d.size)) := by
  refine DC.of slices_Compact_Lint_int.ok (by simp) ?_
  obtain ⟨n, hn⟩ : ∃ n, d.size = n := ⟨_, rfl⟩
  rw [hn] at hs ⊢
  by_cases h2 : n < 2
  · have i2 : (n : Int) < 2 := by omega
    simp -dsimp [slices_Compact_Lint_int.ir, slices_Compact_Lint_int.rs, i2, h2]
    exact ⟨hn, fun i hi => by omega⟩
  have i2 : ¬ (n : Int) < 2 := by omega
  simp -dsimp [↓loop_f, slices_Compact_Lint_int.ir, i2, h2, hn]
  refine WI.mono (Q := fun e st => (e = .exit 0 ∧ gt st.sl 0 = dataV n ∧ st.hp = [rowsO d] ∧ Unlike d n) ∨ (e = .ret ∧ ∃ (m : Nat) (rows : List (List V)), gt st.sl 2 = .own 0 1 0 m n ∧ st.hp = [.mem false [] rows] ∧ rows.length = n ∧ m < n ∧ ¬ Unlike d n)) (WI.loop 1 (by simp) (fun st => ∃ k : Nat, 1 ≤ k ∧ k ≤ n ∧ gt st.sl 0 = dataV n ∧ gt st.sl 3 = vi k ∧ st.hp = [rowsO d] ∧ Unlike d k) (fun st => (n - (gt st.sl 3).num).toNat) ?_ ?_) ?_
  · exact ⟨1, by omega, by omega, by first | rfl | simp, by first | rfl | simp, rfl, fun i hi => by omega⟩
  · rintro ⟨sl, hp, bs⟩ ⟨k, hk1, hkn, h0, h3, rfl, hu⟩
    by_cases hkl : k < n
    · have i1 : (k : Int) < n := by omega
      obtain ⟨p, rfl⟩ : ∃ p, k = p + 1 := ⟨k - 1, by omega⟩
      obtain ⟨q, hq⟩ : ∃ q, p + 1 = q := ⟨_, rfl⟩
      rw [hq] at h3 hkl hkn i1 hu
      have w1 : IntKind.i64.wrap ((q : Int) - 1) = (p : Int) := by rw [wrap64] <;> omega
      have w2 : IntKind.i64.wrap ((q : Int) + 1) = ((q + 1 : Nat) : Int) := by rw [wrap64] <;> omega
      have b1 : q < d.size := by omega
      have b2 : p < d.size := by omega
      have b2' : p < n := by omega
      obtain ⟨μ0, hμ⟩ : ∃ μ0, ((n : Int) - (gt sl 3).num).toNat = μ0 := ⟨_, rfl⟩
      have hμ' : μ0 = n - q := by rw [← hμ, h3]; show ((n : Int) - (q : Int)).toNat = _; omega
      simp only [hμ]
      clear hμ
      unfold slices_Compact_Lint_int.b0
      refine vc_cut (fun st => gt st.sl 0 = dataV n ∧ gt st.sl 3 = vi q ∧ st.hp = [rowsO d]) (by simp -dsimp [h0, h3, i1, hkl, hn]) ?_
      clear h0 h3
      rintro ⟨sl, hp, bs⟩ ⟨h0, h3, rfl⟩
      by_cases he : d[q] = d[p]
      · have hno : ¬ Unlike d n := fun h => h p (by omega) (by rw [hq, get_bang d b1, get_bang d b2]; exact he)
        refine vc_cut (fun _ => False) (vc_block_of ?_) (fun _ h => h.elim)
        refine vc_cut (fun st => gt st.sl 0 = dataV n ∧ gt st.sl 3 = vi q ∧ gt st.sl 25 = .bool true ∧ st.hp = [rowsO d]) (by simp -dsimp [h0, h3, hkl, w1, b2', hn, he]) ?_
        clear h0 h3
        rintro ⟨sl, hp, bs⟩ ⟨h0, h3, h25, rfl⟩
        rw [vc_cond_true (by simpa using h25)]
        have ecut : n - q = n - q := rfl
        refine vc_cut (fun st => gt st.sl 0 = dataV n ∧ gt st.sl 3 = vi q ∧ gt st.sl 4 = .own 0 1 q (n - q) n ∧ st.hp = [rowsO d]) (by simp -dsimp [h0, h3, hkn]; omega) ?_
        clear h0 h3
        rintro ⟨sl, hp, bs⟩ ⟨h0, h3, h4, rfl⟩
        refine vc_cut (fun st => ∃ (m : Nat) (d' : Array Int), d'.size = n ∧ m < n ∧ gt st.sl 0 = dataV n ∧ gt st.sl 3 = vi m ∧ st.hp = [rowsO d']) ?_ ?_
        · simp -dsimp [↓loop_f, h0, h3, h4]
          exact compact_inner hs hkl (by omega : q + (n - q) = n) d hn _ _ _ (by first | exact h0 | simp [h0]) (by first | exact h3 | simp [h3]) (by first | exact h4 | simp [h4]) (by simp) fun s m d' g1 g2 g3 g4 g5 => ⟨m, d', g1, g2, g3, g4, g5⟩
        clear h0 h3 h4
        rintro ⟨sl, hp, bs⟩ ⟨m, d', hd', hm, h0, h3, rfl⟩
        have bm : m ≤ n := by omega
        simp -dsimp [h0, h3, hd', bm]
        exact ⟨hm, hno⟩
      · refine vc_cut (fun st => gt st.sl 0 = dataV n ∧ gt st.sl 3 = vi q ∧ st.hp = [rowsO d]) (vc_block_of (by simp -dsimp [h0, h3, hkl, w1, b2', hn, he])) ?_
        clear h0 h3
        rintro ⟨sl, hp, bs⟩ ⟨h0, h3, rfl⟩
        simp -dsimp [h0, h3, w2]
        refine ⟨⟨q + 1, by omega, by omega, by omega, fun i hi => ?_⟩, by omega⟩
        by_cases hip : i = p
        · subst hip; rw [hq, get_bang d b1, get_bang d b2]; exact he
        · exact hu i (by omega)
    · have i1 : ¬ (k : Int) < n := by omega
      obtain rfl : k = n := by omega
      simp -dsimp [slices_Compact_Lint_int.b0, h0, h3, i1, hkl]
      exact ⟨hn, hu⟩
  · rintro e ⟨sl, hp, bs⟩ (⟨rfl, h0, rfl, hu⟩ | ⟨rfl, m, rows, h2, rfl, hl, hm, hu⟩)
    · simp -dsimp [h0, slices_Compact_Lint_int.rs]
      exact ⟨hn, hu⟩
    · simp -dsimp [h2, slices_Compact_Lint_int.rs, hu, hl]
      omega
end Go.Abs.G
