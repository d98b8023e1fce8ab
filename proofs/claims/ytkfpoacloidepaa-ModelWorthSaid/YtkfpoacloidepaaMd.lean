import Derived.Test.YtkfpoacloidepaaAbsY
set_option linter.all false
/- The problems, as Lean data. -/
namespace Go.Abs

structure Var where
  name : ByteArray
  lo : Int
  hi : Int
structure Term where
  c : Int
  x : Int
structure Con where
  kind : Int
  op : Int
  terms : List Term
  k : Int
  v : Int
  x : Int
  y : Int
  xs : List Int
  table : List Int
  rows : List (List Int)
structure Model where
  vars : List Var
  cons : List Con
  hasGoal : Bool
  goal : List Term

abbrev V.i (n : Int) : V := .a (.int .i64 n)
def vInts (l : List Int) : V := .view 1 (l.map fun n => [V.i n])
def vIntss (l : List (List Int)) : V := .view 1 (l.map fun r => [vInts r])
def Term.cells (t : Term) : List V := [V.i t.c, V.i t.x]
def vTerms (l : List Term) : V := .view 2 (l.map Term.cells)
def Var.cells (v : Var) : List V := [.str v.name, V.i v.lo, V.i v.hi]
def vVars (l : List Var) : V := .view 3 (l.map Var.cells)
def Con.cells (c : Con) : List V := [V.i c.kind, V.i c.op, vTerms c.terms, V.i c.k, V.i c.v, V.i c.x, V.i c.y, vInts c.xs, vInts c.table, vIntss c.rows]
def vCons (l : List Con) : V := .view 10 (l.map Con.cells)
def Model.cells (m : Model) : List V := [vVars m.vars, vCons m.cons, .bool m.hasGoal, vTerms m.goal]

def I64 (n : Int) : Prop := -9223372036854775808 ≤ n ∧ n ≤ 9223372036854775807
def okInts (l : List Int) : Prop := l.length ≤ maxLen ∧ ∀ n ∈ l, I64 n
def okTerm (t : Term) : Prop := I64 t.c ∧ I64 t.x
def okVar (v : Var) : Prop := v.name.size ≤ maxLen ∧ I64 v.lo ∧ I64 v.hi
def okTerms (l : List Term) : Prop := l.length ≤ maxLen ∧ ∀ t ∈ l, okTerm t
def okCon (c : Con) : Prop := I64 c.kind ∧ I64 c.op ∧ okTerms c.terms ∧ I64 c.k ∧ I64 c.v ∧ I64 c.x ∧ I64 c.y ∧ okInts c.xs ∧ okInts c.table ∧ c.rows.length ≤ maxLen ∧ ∀ r ∈ c.rows, okInts r
def okModel (m : Model) : Prop := (m.vars.length ≤ maxLen ∧ ∀ v ∈ m.vars, okVar v) ∧ (m.cons.length ≤ maxLen ∧ ∀ c ∈ m.cons, okCon c) ∧ okTerms m.goal

/-- The types that the readings below speak of. -/
structure MTypes (P : Program) (tInt tBool tStr tInts tIntss tTerm tTerms tVar tVars tCon tCons tModel : TypeId) : Prop where
  int : P.underlying tInt = some (.int .i64) ∧ P.cellsOf tInt = 1
  bool : P.underlying tBool = some .bool ∧ P.cellsOf tBool = 1
  str : P.underlying tStr = some .string ∧ P.cellsOf tStr = 1
  ints : P.underlying tInts = some (.slice tInt) ∧ P.cellsOf tInts = 1
  intss : P.underlying tIntss = some (.slice tInts) ∧ P.cellsOf tIntss = 1
  term : ∃ fs, P.underlying tTerm = some (.struct fs) ∧ P.cellsOf tTerm = 2 ∧ fs.toList.map (fun f => (f.type, f.offset)) = [(tInt, 0), (tInt, 1)]
  terms : P.underlying tTerms = some (.slice tTerm) ∧ P.cellsOf tTerms = 1
  var : ∃ fs, P.underlying tVar = some (.struct fs) ∧ P.cellsOf tVar = 3 ∧ fs.toList.map (fun f => (f.type, f.offset)) = [(tStr, 0), (tInt, 1), (tInt, 2)]
  vars : P.underlying tVars = some (.slice tVar) ∧ P.cellsOf tVars = 1
  con : ∃ fs, P.underlying tCon = some (.struct fs) ∧ P.cellsOf tCon = 10 ∧ fs.toList.map (fun f => (f.type, f.offset)) = [(tInt, 0), (tInt, 1), (tTerms, 2), (tInt, 3), (tInt, 4), (tInt, 5), (tInt, 6), (tInts, 7), (tInts, 8), (tIntss, 9)]
  cons : P.underlying tCons = some (.slice tCon) ∧ P.cellsOf tCons = 1
  model : ∃ fs, P.underlying tModel = some (.struct fs) ∧ P.cellsOf tModel = 4 ∧ fs.toList.map (fun f => (f.type, f.offset)) = [(tVars, 0), (tCons, 1), (tBool, 2), (tTerms, 3)]

def fl (t : TypeId) (o : Nat) : Field := { (default : Field) with type := t, offset := o }

theorem RdF.of_map {P : Program} {fs : List Field} {k n : Nat} {α : Type} {g : α → List V} {ok : α → Prop} (h : RdF P fs k n g ok) {gs : List Field} (he : gs.map (fun f => (f.type, f.offset)) = fs.map (fun f => (f.type, f.offset))) : RdF P gs k n g ok := by
  intro H enc w fuel cs xs hx
  refine h H enc w fuel cs xs ?_
  have : ∀ (l : List Field), l.mapM (fun fd => DataW.trod enc P w 0 (fun _ => true) true fuel fd.type ((cs.drop fd.offset).take (P.cellsOf fd.type))) = (l.map fun f => (f.type, f.offset)).mapM (fun q => DataW.trod enc P w 0 (fun _ => true) true fuel q.1 ((cs.drop q.2).take (P.cellsOf q.1))) := by
    intro l
    induction l with
    | nil => rfl
    | cons a l ih => rw [List.map_cons, List.mapM_cons, List.mapM_cons, ih]
  rw [this] at hx ⊢
  rw [← he]; exact hx

section
variable {P : Program} {tInt tBool tStr tInts tIntss tTerm tTerms tVar tVars tCon tCons tModel : TypeId} (M : MTypes P tInt tBool tStr tInts tIntss tTerm tTerms tVar tVars tCon tCons tModel)
include M

theorem MTypes.rdInt : Rd P tInt 1 (fun n : Int => [V.i n]) I64 :=
  (Rd.int M.int.1 M.int.2).map fun n h => ⟨n, by
    have : (decide (IntKind.i64.min ≤ n) && decide (n ≤ IntKind.i64.max)) = true := h
    simp only [Bool.and_eq_true, decide_eq_true_eq] at this
    exact ⟨this.1, this.2⟩, rfl⟩

theorem MTypes.rdInts : Rd P tInts 1 (fun l : List Int => [vInts l]) okInts :=
  (Rd.slice M.ints.1 M.ints.2 (by omega) M.rdInt).map fun l h => ⟨l, h, rfl⟩

theorem MTypes.rdIntss : Rd P tIntss 1 (fun l : List (List Int) => [vIntss l]) (fun l => l.length ≤ maxLen ∧ ∀ r ∈ l, okInts r) :=
  (Rd.slice M.intss.1 M.intss.2 (by omega) M.rdInts).map fun l h => ⟨l, h, rfl⟩

theorem MTypes.rdTerm : Rd P tTerm 2 Term.cells okTerm := by
  obtain ⟨fs, h1, h2, h3⟩ := M.term
  refine (Rd.struct h1 h2 (RdF.of_map (fs := [fl tInt 0, fl tInt 1]) (.cons rfl M.rdInt (.cons rfl M.rdInt .nil)) h3)).map fun x h => ?_
  exact ⟨⟨x.1, x.2.1⟩, ⟨h.1, h.2.1⟩, rfl⟩

theorem MTypes.rdTerms : Rd P tTerms 1 (fun l : List Term => [vTerms l]) okTerms :=
  (Rd.slice M.terms.1 M.terms.2 (by omega) M.rdTerm).map fun l h => ⟨l, h, rfl⟩

theorem MTypes.rdVar : Rd P tVar 3 Var.cells okVar := by
  obtain ⟨fs, h1, h2, h3⟩ := M.var
  refine (Rd.struct h1 h2 (RdF.of_map (fs := [fl tStr 0, fl tInt 1, fl tInt 2]) (.cons rfl (Rd.str M.str.1 M.str.2) (.cons rfl M.rdInt (.cons rfl M.rdInt .nil))) h3)).map fun x h => ?_
  exact ⟨⟨x.1, x.2.1, x.2.2.1⟩, ⟨h.1, h.2.1, h.2.2.1⟩, rfl⟩

theorem MTypes.rdCon : Rd P tCon 10 Con.cells okCon := by
  obtain ⟨fs, h1, h2, h3⟩ := M.con
  refine (Rd.struct h1 h2 (RdF.of_map (fs := [fl tInt 0, fl tInt 1, fl tTerms 2, fl tInt 3, fl tInt 4, fl tInt 5, fl tInt 6, fl tInts 7, fl tInts 8, fl tIntss 9])
    (.cons rfl M.rdInt (.cons rfl M.rdInt (.cons rfl M.rdTerms (.cons rfl M.rdInt (.cons rfl M.rdInt (.cons rfl M.rdInt (.cons rfl M.rdInt (.cons rfl M.rdInts (.cons rfl M.rdInts (.cons rfl M.rdIntss .nil)))))))))) h3)).map fun x h => ?_
  obtain ⟨a1, a2, a3, a4, a5, a6, a7, a8, a9, a10, _⟩ := h
  exact ⟨⟨x.1, x.2.1, x.2.2.1, x.2.2.2.1, x.2.2.2.2.1, x.2.2.2.2.2.1, x.2.2.2.2.2.2.1, x.2.2.2.2.2.2.2.1, x.2.2.2.2.2.2.2.2.1, x.2.2.2.2.2.2.2.2.2.1⟩, ⟨a1, a2, a3, a4, a5, a6, a7, a8, a9, a10.1, a10.2⟩, rfl⟩

theorem MTypes.rdModel : Rd P tModel 4 Model.cells okModel := by
  obtain ⟨fs, h1, h2, h3⟩ := M.model
  refine (Rd.struct h1 h2 (RdF.of_map (fs := [fl tVars 0, fl tCons 1, fl tBool 2, fl tTerms 3])
    (.cons rfl (Rd.slice M.vars.1 M.vars.2 (by omega) M.rdVar) (.cons rfl (Rd.slice M.cons.1 M.cons.2 (by omega) M.rdCon) (.cons rfl (Rd.bool M.bool.1 M.bool.2) (.cons rfl M.rdTerms .nil)))) h3)).map fun x h => ?_
  obtain ⟨a1, a2, a3, a4, _⟩ := h
  exact ⟨⟨x.1, x.2.1, x.2.2.1, x.2.2.2.1⟩, ⟨a1, a2, a4⟩, rfl⟩

end
end Go.Abs
