import Derived.Test.YtcahkhebjblijaaOb3
import Derived.KernelRfl
set_option linter.all false
namespace Go.Abs.G
open Go.Proofs
set_option linter.unusedVariables false
set_option linter.unusedSimpArgs false
attribute [local simp] I.vc
section
variable {s s' : List Dom} {T T' : List (List Ce)} {E : Heap}
@[simp] theorem row_take (d : Dom) : List.take 4 d.row = d.row := rfl
@[simp] theorem row_idsL (d : Dom) : V.idsL d.row = [] := rfl
@[simp] theorem U_lim5 : (U s T).map (limO 5) = U s T := rfl
@[simp] theorem U_take5 (a b : O) : List.take 5 (U s T ++ [a, b]) = U s T ++ [a, b] := rfl
end

def cutTo (k v : Int) (d : Dom) : Nat → Dom
  | 0 => d
  | n + 1 => if goesB k v (d.from' + n) then (cutTo k v d n).drop n else cutTo k v d n
theorem drop_from (d : Dom) (k : Nat) : (d.drop k).from' = d.from' := by unfold Dom.drop; split <;> rfl
theorem drop_width (d : Dom) (k : Nat) : (d.drop k).width = d.width := by unfold Dom.drop; split <;> rfl
theorem drop_ok {d : Dom} (k : Nat) (h : d.ok) : (d.drop k).ok := by
  unfold Dom.drop; split
  · exact ⟨h.f, h.w, clr_lt _ _, h.b⟩
  · exact ⟨h.f, h.w, h.a, clr_lt _ _⟩
theorem cutTo_from (k v : Int) (d : Dom) : ∀ n, (cutTo k v d n).from' = d.from'
  | 0 => rfl
  | n + 1 => by unfold cutTo; split <;> simp [drop_from, cutTo_from k v d n]
theorem cutTo_width (k v : Int) (d : Dom) : ∀ n, (cutTo k v d n).width = d.width
  | 0 => rfl
  | n + 1 => by unfold cutTo; split <;> simp [drop_width, cutTo_width k v d n]
theorem cutTo_ok (k v : Int) {d : Dom} (h : d.ok) : ∀ n, (cutTo k v d n).ok
  | 0 => h
  | n + 1 => by unfold cutTo; split; exact drop_ok _ (cutTo_ok k v h n); exact cutTo_ok k v h n

def Dom.none (d : Dom) : Bool := decide (d.a = 0) && decide (d.b = 0)
def Dom.same (d e : Dom) : Bool := decide (d.a = e.a) && decide (d.b = e.b)
def cutS (s : List Dom) (k x v : Int) : List Dom × Bool × Bool :=
  if isB s x then match s[x.toNat]? with
    | some d => if (cutTo k v d d.width).none then (s, false, false) else (s.set x.toNat (cutTo k v d d.width), !(cutTo k v d d.width).same d, true)
    | none => (s, false, true)
  else (s, false, true)

end Go.Abs.G


namespace Go.Abs.G
open Go.Proofs
set_option linter.unusedVariables false
set_option linter.unusedSimpArgs false
attribute [local simp] I.vc

/-- A nil slice told as a slice without elements. -/
theorem DC.nilv {P : Program} {f : FuncId} {xs : List V} {H : Heap} {Q Q' : V → Heap → Prop} (es : Nat) (h : DC P f xs H Q) (hq : ∀ x H', Q x H' → Q' x H' ∨ (x = .a (.slice none 0 0) ∧ Q' (.view es []) H')) : DC P f xs H Q' := fun w β F vs hk hr =>
  (h w β F vs hk hr).mono fun e w' ⟨r, x, H', β2, h1, h2, h3, h4⟩ => by
    rcases hq x H' h4 with hQ | ⟨rfl, hQ⟩
    · exact ⟨r, x, H', β2, h1, h2, h3, hQ⟩
    · cases h3 with
      | a => exact ⟨_, .view es [], H', β2, h1, h2, .nilv, hQ⟩

def Dom.vals (d : Dom) (n : Nat) : List Int := ((List.range n).filter d.has).map fun i => d.from' + (i : Nat)
def valsB (s : List Dom) (x : Int) : List Int := if isB s x then ((s[x.toNat]?).map fun d => d.vals d.width).getD [] else []
section
variable {s s' : List Dom} {T T' : List (List Ce)} {E : Heap}
@[simp] theorem U_take6 (a b c : O) : List.take 6 (U s T ++ (a :: b :: c :: E)) = U s T ++ [a, b, c] := rfl
@[simp] theorem U_take6' (a : O) : List.take 6 (U s T ++ [a]) = U s T ++ [a] := rfl
@[simp] theorem U_lim6 : (U s T).map (limO 6) = U s T := rfl
@[simp] theorem UE_5 (a b c : O) : (U s T ++ (a :: b :: c :: E))[5]? = some c := rfl
@[simp] theorem UE_5' (a b c : O) (h) : (U s T ++ (a :: b :: c :: E))[5]'h = c := rfl
@[simp] theorem UE_set5 (a b c o' : O) : (U s T ++ (a :: b :: c :: E)).set 5 o' = U s T ++ (a :: b :: o' :: E) := rfl
end

end Go.Abs.G


namespace Go.Abs.G
open Go.Proofs
set_option linter.unusedVariables false
set_option linter.unusedSimpArgs false
attribute [local simp] I.vc

section
variable {s s' : List Dom} {T T' : List (List Ce)} {E : Heap}
@[simp] theorem U_take5b (a b : O) : List.take 5 (U s T ++ (a :: b :: E)) = U s T ++ [a, b] := rfl
@[simp] theorem U_take5c : List.take 5 (U s T) = U s T := rfl
end

end Go.Abs.G


namespace Go.Abs.G
open Go.Proofs
set_option linter.unusedVariables false
set_option linter.unusedSimpArgs false
attribute [local simp] I.vc

def Z (s : List Dom) (rf : List Nat) (R : List (List V)) : Heap := [.mem false [1, 2] [[.own 1 4 0 s.length s.length, .own 2 1 0 R.length R.length]], .mem false [] (s.map Dom.row), .mem false rf R]
section
variable {s : List Dom} {rf : List Nat} {R : List (List V)} {Es E : Heap} {n : Nat}
@[simp] theorem Z_s2 (o : O) : ((Z s rf R ++ E).set 2 o)[2]? = some o := rfl
@[simp] theorem Z_0 : (Z s rf R ++ E)[0]? = some (.mem false [1, 2] [[.own 1 4 0 s.length s.length, .own 2 1 0 R.length R.length]]) := rfl
@[simp] theorem Z_1 : (Z s rf R ++ E)[1]? = some (.mem false [] (s.map Dom.row)) := rfl
@[simp] theorem Z_2 : (Z s rf R ++ E)[2]? = some (.mem false rf R) := rfl
@[simp] theorem Z_0' (h) : (Z s rf R ++ E)[0]'h = .mem false [1, 2] [[.own 1 4 0 s.length s.length, .own 2 1 0 R.length R.length]] := rfl
@[simp] theorem Z_1' (h) : (Z s rf R ++ E)[1]'h = .mem false [] (s.map Dom.row) := rfl
@[simp] theorem Z_2' (h) : (Z s rf R ++ E)[2]'h = .mem false rf R := rfl
@[simp] theorem Z_len : (Z s rf R).length = 3 := rfl
end

end Go.Abs.G


namespace Go.Abs
end Go.Abs
namespace Go.Abs.G
open Go.Proofs
set_option linter.unusedVariables false
set_option linter.unusedSimpArgs false
attribute [local simp] I.vc

def domCe (d : Dom) : List Ce := d.row.map .v
def mT (ms : List (List Dom)) : List (List Ce) := ms.map fun L => [.n 4 (L.map domCe)]
end Go.Abs.G


namespace Go.Abs.G
open Go.Proofs
set_option linter.unusedVariables false
set_option linter.unusedSimpArgs false
attribute [local simp] I.vc

end Go.Abs.G


namespace Go.Abs.G
open Go.Proofs
set_option linter.unusedVariables false
set_option linter.unusedSimpArgs false
attribute [local simp] I.vc

end Go.Abs.G


namespace Go.Abs.G
open Go.Proofs
set_option linter.unusedVariables false
set_option linter.unusedSimpArgs false
attribute [local simp] I.vc

/-- A store as one thing. -/
def St1 (s : List Dom) (T : List (List Ce)) : O := .tree [] [[.n 4 (s.map domCe), .n 1 T]]

end Go.Abs.G


namespace Go.Abs.G
open Go.Proofs
set_option linter.unusedVariables false
set_option linter.unusedSimpArgs false
attribute [local simp] I.vc

end Go.Abs.G


/- The reference's store: two owned lists whose rows are only read. -/
namespace Go.Abs.G
open Go.Proofs
set_option linter.unusedVariables false
set_option linter.unusedSimpArgs false
attribute [local simp] I.vc

def flR (D : List (List V)) : Prop := (∀ f, D.map (V.renL f) = D) ∧ Ce.idsR (flatC D) = []

def RS (D M : List (List V)) : Heap := [.mem false [1, 2] [[.own 1 1 0 D.length D.length, .own 2 1 0 M.length M.length]], .mem false [] D, .mem false [] M]
def R1 (D M : List (List V)) : O := .tree [] [[.n 1 (flatC D), .n 1 (flatC M)]]

section
variable {D M D' M' : List (List V)} {E : Heap}
@[simp] theorem RS_len : (RS D M).length = 3 := rfl
@[simp] theorem RS_0 : (RS D M)[0]? = some (.mem false [1, 2] [[.own 1 1 0 D.length D.length, .own 2 1 0 M.length M.length]]) := rfl
@[simp] theorem RS_1 : (RS D M)[1]? = some (.mem false [] D) := rfl
@[simp] theorem RS_2 : (RS D M)[2]? = some (.mem false [] M) := rfl
@[simp] theorem RSE_0 : (RS D M ++ E)[0]? = some (.mem false [1, 2] [[.own 1 1 0 D.length D.length, .own 2 1 0 M.length M.length]]) := rfl
@[simp] theorem RSE_1 : (RS D M ++ E)[1]? = some (.mem false [] D) := rfl
@[simp] theorem RSE_2 : (RS D M ++ E)[2]? = some (.mem false [] M) := rfl
@[simp] theorem RSE_0' (h) : (RS D M ++ E)[0]'h = .mem false [1, 2] [[.own 1 1 0 D.length D.length, .own 2 1 0 M.length M.length]] := rfl
@[simp] theorem RSE_1' (h) : (RS D M ++ E)[1]'h = .mem false [] D := rfl
@[simp] theorem RSE_2' (h) : (RS D M ++ E)[2]'h = .mem false [] M := rfl
@[simp] theorem RS_0' (h) : (RS D M)[0]'h = .mem false [1, 2] [[.own 1 1 0 D.length D.length, .own 2 1 0 M.length M.length]] := rfl
@[simp] theorem RS_1' (h) : (RS D M)[1]'h = .mem false [] D := rfl
@[simp] theorem RS_2' (h) : (RS D M)[2]'h = .mem false [] M := rfl
@[simp] theorem RSE_3 (a : O) : (RS D M ++ (a :: E))[3]? = some a := rfl
@[simp] theorem RSE_3' (a : O) (h) : (RS D M ++ (a :: E))[3]'h = a := rfl
@[simp] theorem RSE_4 (a b : O) : (RS D M ++ (a :: b :: E))[4]? = some b := rfl
@[simp] theorem RSE_4' (a b : O) (h) : (RS D M ++ (a :: b :: E))[4]'h = b := rfl
@[simp] theorem RSE_5 (a b c : O) : (RS D M ++ (a :: b :: c :: E))[5]? = some c := rfl
@[simp] theorem RSE_5' (a b c : O) (h) : (RS D M ++ (a :: b :: c :: E))[5]'h = c := rfl
@[simp] theorem RSE_set3 (a o : O) : (RS D M ++ (a :: E)).set 3 o = RS D M ++ (o :: E) := rfl
@[simp] theorem RSE_set4 (a b o : O) : (RS D M ++ (a :: b :: E)).set 4 o = RS D M ++ (a :: o :: E) := rfl
@[simp] theorem RSE_set5 (a b c o : O) : (RS D M ++ (a :: b :: c :: E)).set 5 o = RS D M ++ (a :: b :: o :: E) := rfl
@[simp] theorem RS_lim (n : Nat) (h : 3 ≤ n) : (RS D M).map (limO n) = RS D M := by
  have h1 : 1 < n := by omega
  have h2 : 2 < n := by omega
  simp [RS, limO, O.refs, h1, h2]
@[simp] theorem RS_take3 : List.take 3 (RS D M) = RS D M := rfl
@[simp] theorem RS_clos : clos (RS D M) 8 [0] = [0, 1, 2] := by simp [clos, addAll, O.refs, RS]
@[simp] theorem RSE_clos : clos (RS D M ++ E) 8 [0] = [0, 1, 2] := by simp [clos, addAll, O.refs, RS]
end

/-- A list of lists, and marks of it. -/
def dR (d : List (List Int)) : List (List V) := d.map fun l => [vInts l]
def mR (ms : List (List (List Int))) : List (List V) := ms.map fun d => [vIntss d]
theorem flatC_ids : ∀ (D : List (List V)), (∀ r ∈ D, V.idsL r = []) → Ce.idsR (flatC D) = []
  | [], _ => rfl
  | r :: D, h => by
    have hr : ∀ (r : List V), Ce.idsL (r.map Ce.v) = V.idsL r := fun r => by
      induction r with
      | nil => rfl
      | cons x r ih => simp [Ce.idsL, Ce.ids, V.idsL, ih]
    have := flatC_ids D (fun r' h' => h r' (by simp [h']))
    simp only [flatC] at this
    simp [flatC, Ce.idsR, hr, h r (by simp), this]
theorem fl_dR (d : List (List Int)) : flR (dR d) := ⟨fun f => by simp [dR, V.renL, V.ren, vInts, Function.comp_def], flatC_ids _ fun r hr => by
  simp only [dR, List.mem_map] at hr
  obtain ⟨l, _, rfl⟩ := hr
  rfl⟩
theorem fl_mR (ms : List (List (List Int))) : flR (mR ms) := ⟨fun f => by simp [mR, V.renL, V.ren, vIntss, Function.comp_def], flatC_ids _ fun r hr => by
  simp only [mR, List.mem_map] at hr
  obtain ⟨l, _, rfl⟩ := hr
  rfl⟩
@[simp] theorem dR_len (d : List (List Int)) : (dR d).length = d.length := by simp [dR]
@[simp] theorem mR_len (ms : List (List (List Int))) : (mR ms).length = ms.length := by simp [mR]
end Go.Abs.G



namespace Go.Abs.G
open Go.Proofs
set_option linter.unusedVariables false
-- hallmark/hallmarkref11.own
def hallmarkref11_ownF.ann : List (Nat × RA) := [(0, { gs := [], keep := some [0] }), (1, { gs := [], keep := some [0, 3] }), (2, { gs := [], keep := some [0, 3, 4] }), (3, { gs := [], keep := some [0, 3, 4, 8] }), (4, { gs := [], keep := some [0, 3, 4] }), (5, { gs := [(6, [.frz 16, .nilv 16 1])], keep := some [0, 3, 4], aps := [(6, [1000004])] }), (6, { gs := [(0, [.frz 3, .nilv 3 1])], keep := some [2] })]
def hallmarkref11_ownF.b0 : C := .seq (.seq (.reg 0 [.o 0 (.lt (some 5) (.mov (.tmp 4))),
    .o 1 (.lt (some 6) (.mov (.tmp 0))),
    .o 2 (.lt (some 7) (.lenSl (.tmp 6))),
    .o 3 (.lt (some 8) (.bin .lss (.tmp 5) (.tmp 7))),
    .g (.keep [0, 3, 4, 8])]) (.cond (.tmp 8) (.skip) (.exit 0))) (.seq (.block 1 (.reg 3 [.o 0 (.lt (some 11) (.mov (.tmp 3))),
    .o 1 (.lt (some 12) (.mov (.tmp 0))),
    .o 2 (.lt (some 13) (.mov (.tmp 4))),
    .o 3 (.lt (some 14) (.ixS 1 (.tmp 12) (.tmp 13))),
    .o 4 (.lt (some 15) (.ld false 1 (.tmp 14))),
    .o 5 (.app [] (some 16) 0 1 8 (.const (.slice none 0 0)) (.tmp 15)),
    .g (.frz 16),
    .g (.nilv 16 1),
    .o 6 (.bsv (some 17) 1 1 [.a (.slice none 0 0)] [(0, (.tmp 16))]),
    .o 7 (.app [] (some 18) 2 1 24 (.tmp 11) (.tmp 17)),
    .o 8 (.lt (some 3) (.mov (.tmp 18))),
    .g (.keep [0, 3, 4])])) (.reg 0 [.o 0 (.lt (some 9) (.mov (.tmp 4))),
    .o 1 (.lt (some 10) (.bin .add (.tmp 9) (.const (.int .i64 1)))),
    .o 2 (.lt (some 4) (.mov (.tmp 10))),
    .g (.keep [0, 3, 4])]))
def hallmarkref11_ownF.rs : List Rs := [.sl 2]
end Go.Abs.G



/- What the reference's look at a problem tells: the same. -/
namespace Go.Abs
set_option linter.unusedVariables false

end Go.Abs

namespace Go.Abs.G
open Go.Proofs
set_option linter.unusedVariables false
set_option linter.unusedSimpArgs false
attribute [local simp] I.vc sub merge place

def Dom.add (d : Dom) (k : Nat) : Dom := if k < 32 then { d with a := sett d.a k } else { d with b := sett d.b (k - 32) }
def fillTo (d : Dom) : Nat → Dom
  | 0 => d
  | n + 1 => (fillTo d n).add n
theorem add_width (d : Dom) (k : Nat) : (d.add k).width = d.width := by unfold Dom.add; split <;> rfl
theorem add_ok {d : Dom} (k : Nat) (h : d.ok) : (d.add k).ok := by
  unfold Dom.add; split
  · exact ⟨h.f, h.w, sett_lt _ _, h.b⟩
  · exact ⟨h.f, h.w, h.a, sett_lt _ _⟩
theorem fillTo_ok {d : Dom} (h : d.ok) : ∀ n, (fillTo d n).ok
  | 0 => h
  | n + 1 => add_ok _ (fillTo_ok h n)
theorem fillTo_width (d : Dom) : ∀ n, (fillTo d n).width = d.width
  | 0 => rfl
  | n + 1 => by simp [fillTo, add_width, fillTo_width d n]
def dom0 (v : Var) : Dom := ⟨v.lo, (v.hi - v.lo + 1).toNat, 0, 0⟩
def domOf (v : Var) : Dom := fillTo (dom0 v) (dom0 v).width
theorem dom0_ok {v : Var} (h : VarOk v) : (dom0 v).ok := by
  obtain ⟨h1, h2, h3, h4⟩ := h
  exact ⟨by simp [dom0]; omega, by simp [dom0]; omega, by simp [dom0], by simp [dom0]⟩
def domsOf (m : Model) : List Dom := if (checkB m).2 = 0 then m.vars.map domOf else []

@[simp] theorem vVars_ids (l : List Var) : (vVars l).ids = [] := rfl
@[simp] theorem lim_vVars (n : Nat) (l : List Var) : lim n (vVars l) = vVars l := rfl

end Go.Abs.G


namespace Go.Abs.G
open Go.Proofs
set_option linter.unusedVariables false
set_option linter.unusedSimpArgs false
attribute [local simp] I.vc

end Go.Abs.G


namespace Go.Abs.G
open Go.Proofs
set_option linter.unusedVariables false
set_option linter.unusedSimpArgs false
attribute [local simp] I.vc

theorem mT_len (ms : List (List Dom)) : (mT ms).length = ms.length := by simp [mT]

end Go.Abs.G


namespace Go.Abs.G
open Go.Proofs
set_option linter.unusedVariables false
set_option linter.unusedSimpArgs false
attribute [local simp] I.vc

end Go.Abs.G


namespace Go.Abs.G
open Go.Proofs
set_option linter.unusedVariables false
set_option linter.unusedSimpArgs false
attribute [local simp] I.vc

end Go.Abs.G


namespace Go.Abs.G
open Go.Proofs
set_option linter.unusedVariables false
set_option linter.unusedSimpArgs false
attribute [local simp] I.vc

end Go.Abs.G


namespace Go.Abs.G
open Go.Proofs
set_option linter.unusedVariables false
set_option linter.unusedSimpArgs false
attribute [local simp] I.vc

theorem domCe_ren (f : Nat → Nat) (L : List Dom) : Ce.renR f (L.map domCe) = L.map domCe := by
  induction L with
  | nil => rfl
  | cons d L ih =>
    have : Ce.renL f (domCe d) = domCe d := rfl
    simp [Ce.renR, this, ih]
theorem mT_ren (f : Nat → Nat) (ms : List (List Dom)) : Ce.renR f (mT ms) = mT ms := by
  induction ms with
  | nil => rfl
  | cons L ms ih =>
    have h : Ce.renR f (ms.map fun L => [Ce.n 4 (L.map domCe)]) = ms.map fun L => [Ce.n 4 (L.map domCe)] := ih
    simp [mT, Ce.renR, Ce.renL, Ce.ren, domCe_ren, h]
structure SOk (s : List Dom) (ms : List (List Dom)) : Prop where
  n : s.length ≤ 64
  k : ms.length ≤ 1000000
  d : ∀ d ∈ s, d.ok
theorem SOk.st {s : List Dom} {ms : List (List Dom)} (h : SOk s ms) : StOk s (mT ms) := ⟨h.n, by rw [mT_len]; exact h.k, h.d, fun f => mT_ren f ms⟩

section
variable {s : List Dom} {ms : List (List Dom)} (h : SOk s ms)
include h
end
end Go.Abs.G


namespace Go.Abs.G
open Go.Proofs
set_option linter.unusedVariables false
set_option linter.unusedSimpArgs false
attribute [local simp] I.vc

end Go.Abs.G


namespace Go.Abs.G
open Go.Proofs
attribute [local simp] I.vc sub merge place
set_option linter.unusedVariables false
set_option linter.unusedSimpArgs false

end Go.Abs.G



namespace Go.Abs.G
open Go.Proofs
attribute [local simp] I.vc sub merge place
set_option linter.unusedVariables false
set_option linter.unusedSimpArgs false

end Go.Abs.G



namespace Go.Abs.G
open Go.Proofs
attribute [local simp] I.vc sub merge place
set_option linter.unusedVariables false
set_option linter.unusedSimpArgs false

structure AtOk (f : FuncId) (cap : List V) (g : Int → Int) (vars : Nat) : Prop where
  ok : okFunc Try.prog f = true
  ids : V.idsL cap = []
  run : ∀ x : Int, 0 ≤ x → x < vars → DP Try.prog f (V.i x :: cap) fun r => r = V.i (g x)
  bound : ∀ x : Int, 0 ≤ x → x < vars → -1000000000 ≤ g x ∧ g x ≤ 1000000000

section
variable {f : FuncId} {cap : List V} {g : Int → Int} {vars : Nat} (A : AtOk f cap g vars)
include A

end
end Go.Abs.G



namespace Go.Abs.G
open Go.Proofs
attribute [local simp] I.vc sub merge place
set_option linter.unusedVariables false
set_option linter.unusedSimpArgs false

section
variable {f : FuncId} {cap : List V} {g : Int → Int} {vars : Nat} (A : AtOk f cap g vars)
include A

end
end Go.Abs.G



namespace Go.Abs.G
open Go.Proofs
attribute [local simp] I.vc sub merge place
set_option linter.unusedVariables false

abbrev cnt (left : Int) : O := .mem false [] [[.int .i64 left]]
/-- What may be left. -/
def okLeft (left : Int) : Prop := -9223372036854775808 < left ∧ left ≤ 20000
def addL (left n : Int) : Int := if 0 ≤ left then left - n else left

theorem addL_ok {left n : Int} (h : okLeft left) (h0 : 0 ≤ n) (h1 : n ≤ 9223372036854775807) : okLeft (addL left n) := by
  unfold okLeft addL at *
  split <;> omega

theorem add_spec (left n : Int) (h : okLeft left) (h0 : 0 ≤ n) (h1 : n ≤ 9223372036854775807) :
    DC Try.prog hallmarkroom_Count_Add.id [.ptr 0 1 0 0, V.i n] [cnt left] (fun r H => r = .bool (decide (0 ≤ addL left n)) ∧ H = [cnt (addL left n)]) := by
  refine DC.of hallmarkroom_Count_Add.ok (by simp) ?_
  unfold okLeft at h
  have hw : 0 ≤ left → IntKind.i64.wrap (left - n) = left - n := fun _ => wrap64 (by omega) (by omega)
  simp [hallmarkroom_Count_Add.ir, hallmarkroom_Count_Add.rs]
  unfold addL
  split <;> simp_all <;> omega

theorem ok_spec (left : Int) : DC Try.prog hallmarkroom_Count_Ok.id [.ptr 0 1 0 0] [cnt left] (fun r H => r = .bool (decide (0 ≤ left)) ∧ H = [cnt left]) := by
  refine DC.of hallmarkroom_Count_Ok.ok (by simp) ?_
  simp [hallmarkroom_Count_Ok.ir, hallmarkroom_Count_Ok.rs]

theorem many_spec (n : Int) : DC Try.prog hallmarkroom_Many.id [V.i n] [] (fun r H => r = .ptr 0 1 0 0 ∧ H = [cnt n]) := by
  refine DC.of hallmarkroom_Many.ok (by simp) ?_
  simp [hallmarkroom_Many.ir, hallmarkroom_Many.rs]

theorem text_spec (left : Int) (s : ByteArray) (h : okLeft left) (hs : s.size ≤ maxLen) :
    DC Try.prog hallmarkroom_Count_Text.id [.ptr 0 1 0 0, .str s] [cnt left] (fun r H => H = [cnt (addL (addL left 1) s.size)]) := by
  have hm : (maxLen : Int) ≤ 9223372036854775807 := by decide
  refine DC.of hallmarkroom_Count_Text.ok (by simp) ?_
  simp [hallmarkroom_Count_Text.ir, hallmarkroom_Count_Text.rs]
  refine DC.mono (add_spec left 1 h (by decide) (by decide)) fun r H' ⟨_, hH⟩ => ?_
  subst hH
  simp
  refine DC.mono (add_spec _ s.size (addL_ok h (by decide) (by decide)) (by omega) (by omega)) fun r H' ⟨_, hH⟩ => ?_
  subst hH
  simp

end Go.Abs.G


/- few, and what it says of sizes. -/
namespace Go.Abs.G
open Go.Proofs
attribute [local simp] I.vc sub merge place
set_option linter.unusedVariables false

structure FewCon (c : Con) : Prop where
  terms : c.terms.length ≤ 20000
  xs : c.xs.length ≤ 20000
  table : c.table.length ≤ 20000
  rows : c.rows.length ≤ 20000
  row : ∀ r ∈ c.rows, r.length ≤ 20000
structure FewM (m : Model) : Prop where
  vars : m.vars.length ≤ 20000
  cons : m.cons.length ≤ 20000
  con : ∀ c ∈ m.cons, FewCon c
  goal : m.goal.length ≤ 20000

/-- What is left behind so many more. -/
def Cnt (a b n : Int) : Prop := 0 ≤ b → 0 ≤ a ∧ b + n ≤ a
theorem Cnt.refl (a : Int) : Cnt a a 0 := fun h => ⟨h, by omega⟩
theorem Cnt.trans {a b c n k : Int} (h : Cnt a b n) (h' : Cnt b c k) : Cnt a c (n + k) := fun hc => by
  have h1 := h' hc
  have h2 := h h1.1
  omega
theorem Cnt.add {a b n k : Int} (h : Cnt a b n) (hk : 0 ≤ k) : Cnt a (addL b k) (n + k) := by
  unfold Cnt addL at *
  split <;> omega

theorem lists2_spec (left : Int) (l : List (List Int)) (h : okLeft left) (hl : l.length ≤ maxLen) (hr : ∀ r ∈ l, r.length ≤ maxLen) :
    DC Try.prog hallmarkroom_Count_Lists.id [.ptr 0 1 0 0, vIntss l] [cnt left] (fun r H => ∃ left', okLeft left' ∧ Cnt left left' l.length ∧ (0 ≤ left' → ∀ r ∈ l, r.length ≤ 20000) ∧ H = [cnt left']) := by
  have hm : (maxLen : Int) ≤ 9223372036854775807 := by decide
  refine DC.of hallmarkroom_Count_Lists.ok (by simp) ?_
  simp [hallmarkroom_Count_Lists.ir, hallmarkroom_Count_Lists.rs, vIntss]
  refine WI.loop 1 (by simp) (fun s => ∃ i left', i ≤ l.length ∧ okLeft left' ∧ Cnt left left' i ∧ (0 ≤ left' → ∀ r ∈ l.take i, r.length ≤ 20000) ∧ gt s.sl 0 = .ptr 0 1 0 0 ∧ gt s.sl 1 = vIntss l ∧ gt s.sl 4 = V.i i ∧ s.hp = [cnt left']) (fun s => (l.length - (gt s.sl 4).num).toNat) ?_ ?_
  · exact ⟨0, left, by simp [vIntss, h]; exact Cnt.refl _⟩
  · rintro ⟨sl, hp, bs⟩ ⟨i, left', hi, h', hct, hall, g0, g1, g4, rfl⟩
    by_cases hil : i < l.length
    · simp [hallmarkroom_Count_Lists.b0, g0, g1, g4, vIntss, hil]
      refine DC.mono (ok_spec left') fun r H' ⟨hr', hH⟩ => ?_
      subst hr' hH
      by_cases h0 : 0 ≤ left'
      · simp [h0]
        refine DC.mono (add_spec left' 1 h' (by decide) (by decide)) fun r H' ⟨_, hH⟩ => ?_
        subst hH
        have hr2 := hr _ (List.getElem_mem hil)
        simp [vInts]
        refine DC.mono (add_spec _ (l[i].length) (addL_ok h' (by decide) (by decide)) (by omega) (by omega)) fun r H' ⟨_, hH⟩ => ?_
        subst hH
        have hw : IntKind.i64.wrap ((i : Int) + 1) = ((i + 1 : Nat) : Int) := by rw [wrap64] <;> omega
        simp [hw]
        have hc2 := (hct.add (k := 1) (by omega)).add (k := l[i].length) (by omega)
        refine ⟨⟨i + 1, by omega, _, addL_ok (addL_ok h' (by decide) (by decide)) (by omega) (by omega), fun hb => ?_, fun hb r hr' => ?_, by omega, rfl⟩, by omega⟩
        · have := hc2 hb
          omega
        · have hx := hc2 hb
          unfold okLeft at h
          rw [List.take_succ_eq_append_getElem hil] at hr'
          rcases List.mem_append.1 hr' with hr' | hr'
          · exact hall h0 r hr'
          · have : r = l[i] := by simpa using hr'
            subst this
            omega
      · simp [h0]
        exact ⟨_, h', fun hb => absurd hb h0, fun hb => absurd hb h0, rfl⟩
    · obtain rfl : i = l.length := by omega
      simp [hallmarkroom_Count_Lists.b0, g0, g1, g4, vIntss]
      exact ⟨_, h', hct, by simpa using hall, rfl⟩

theorem cntCon2_spec (left : Int) (c : Con) (h : okLeft left) (hc : okCon c) :
    DC Try.prog hallmarkroom_Count_Con.id [.ptr 0 1 0 0, .agg c.cells] [cnt left] (fun r H => ∃ left' o, okLeft left' ∧ Cnt left left' 1 ∧ (0 ≤ left' → FewCon c) ∧ H = [cnt left', o]) := by
  have hm : (maxLen : Int) ≤ 9223372036854775807 := by decide
  obtain ⟨_, _, ⟨h3, _⟩, _, _, _, _, ⟨h8, _⟩, ⟨h9, _⟩, h10, h11⟩ := hc
  refine DC.of hallmarkroom_Count_Con.ok (by simp) ?_
  simp [hallmarkroom_Count_Con.ir, hallmarkroom_Count_Con.rs, Con.cells, vTerms, vInts, vIntss]
  refine DC.mono (add_spec left 1 h (by decide) (by decide)) fun r H' ⟨_, hH⟩ => ?_
  subst hH
  have k1 := addL_ok h (n := 1) (by decide) (by decide)
  simp
  refine DC.mono (add_spec _ c.terms.length k1 (by omega) (by omega)) fun r H' ⟨_, hH⟩ => ?_
  subst hH
  have k2 := addL_ok k1 (n := c.terms.length) (by omega) (by omega)
  simp
  refine DC.mono (add_spec _ c.xs.length k2 (by omega) (by omega)) fun r H' ⟨_, hH⟩ => ?_
  subst hH
  have k3 := addL_ok k2 (n := c.xs.length) (by omega) (by omega)
  simp
  refine DC.mono (add_spec _ c.table.length k3 (by omega) (by omega)) fun r H' ⟨_, hH⟩ => ?_
  subst hH
  have k4 := addL_ok k3 (n := c.table.length) (by omega) (by omega)
  simp
  refine DC.mono (lists2_spec _ c.rows k4 h10 fun r hr => (h11 r hr).1) fun r H' ⟨left', ho, hct, hall, hH⟩ => ?_
  subst hH
  simp
  have hc1 := (((((Cnt.refl left).add (k := 1) (by omega)).add (k := c.terms.length) (by omega)).add (k := c.xs.length) (by omega)).add (k := c.table.length) (by omega)).trans hct
  unfold okLeft at h
  refine ⟨_, ho, fun hb => ?_, fun hb => ?_, rfl⟩
  · have := hc1 hb
    omega
  · have hx := hc1 hb
    exact ⟨by omega, by omega, by omega, by omega, hall hb⟩

theorem cntModel2_spec (left : Int) (m : Model) (h : okLeft left) (hm' : okModel m) :
    DC Try.prog hallmarkroom_Count_Model.id [.ptr 0 1 0 0, .agg m.cells] [cnt left] (fun r H => ∃ left' o, okLeft left' ∧ (0 ≤ left' → FewM m) ∧ H = [cnt left', o]) := by
  have hm : (maxLen : Int) ≤ 9223372036854775807 := by decide
  obtain ⟨⟨hv, hv'⟩, ⟨hc, hc'⟩, hg, _⟩ := hm'
  refine DC.of hallmarkroom_Count_Model.ok (by simp) ?_
  simp [hallmarkroom_Count_Model.ir, hallmarkroom_Count_Model.rs, Model.cells, vVars, vCons, vTerms]
  refine WI.mono (Q := fun e s => e = .exit 0 ∧ ∃ left', okLeft left' ∧ Cnt left left' 0 ∧ (0 ≤ left' → m.vars.length ≤ 20000) ∧ gt s.sl 0 = .ptr 0 1 0 0 ∧ gt s.sl 3 = .ptr 1 1 0 0 ∧ s.hp = [cnt left', .mem false [] [m.cells]]) (WI.loop 2 (by simp) (fun s => ∃ i left', i ≤ m.vars.length ∧ okLeft left' ∧ Cnt left left' i ∧ gt s.sl 0 = .ptr 0 1 0 0 ∧ gt s.sl 3 = .ptr 1 1 0 0 ∧ gt s.sl 4 = V.i i ∧ s.hp = [cnt left', .mem false [] [m.cells]]) (fun s => (m.vars.length - (gt s.sl 4).num).toNat) ?_ ?_) ?_
  · exact ⟨0, left, by simp [Model.cells, vVars, vCons, vTerms, h]; exact Cnt.refl _⟩
  · rintro ⟨sl, hp, bs⟩ ⟨i, left', hi, h', hct, g0, g3, g4, rfl⟩
    by_cases hil : i < m.vars.length
    · simp [hallmarkroom_Count_Model.b0, g0, g3, g4, Model.cells, vVars, vCons, vTerms, hil]
      refine DC.mono (ok_spec left') fun r H' ⟨hr', hH⟩ => ?_
      subst hr' hH
      by_cases h0 : 0 ≤ left'
      · have hr2 := (hv' _ (List.getElem_mem hil)).1
        simp [h0, hil, Var.cells]
        refine DC.mono (text_spec left' _ h' hr2) fun r H' hH => ?_
        subst hH
        have hw : IntKind.i64.wrap ((i : Int) + 1) = ((i + 1 : Nat) : Int) := by rw [wrap64] <;> omega
        simp [hw]
        have hc2 := (hct.add (k := 1) (by omega)).add (k := m.vars[i].name.size) (by omega)
        refine ⟨⟨i + 1, by omega, _, addL_ok (addL_ok h' (by decide) (by decide)) (by omega) (by omega), fun hb => ?_, by omega, rfl⟩, by omega⟩
        have := hc2 hb
        omega
      · simp [h0]
        exact ⟨_, h', fun hb => absurd hb h0, fun hb => absurd hb h0, rfl⟩
    · obtain rfl : i = m.vars.length := by omega
      simp [hallmarkroom_Count_Model.b0, g0, g3, g4, Model.cells, vVars, vCons, vTerms]
      unfold okLeft at h
      refine ⟨_, h', fun hb => ?_, fun hb => ?_, rfl⟩
      · have := hct hb; omega
      · have := hct hb; omega
  · rintro e ⟨sl, hp, bs⟩ ⟨rfl, left', h', hc0, hv0, g0, g3, rfl⟩
    simp [g0, g3]
    refine WI.mono (Q := fun e s => e = .exit 2 ∧ ∃ left', okLeft left' ∧ (0 ≤ left' → m.vars.length ≤ 20000 ∧ m.cons.length ≤ 20000 ∧ ∀ c ∈ m.cons, FewCon c) ∧ gt s.sl 0 = .ptr 0 1 0 0 ∧ gt s.sl 3 = .ptr 1 1 0 0 ∧ s.hp = [cnt left', .mem false [] [m.cells]]) (WI.loop 2 (by simp) (fun s => ∃ i left2, i ≤ m.cons.length ∧ okLeft left2 ∧ Cnt left' left2 i ∧ (0 ≤ left2 → ∀ c ∈ m.cons.take i, FewCon c) ∧ gt s.sl 0 = .ptr 0 1 0 0 ∧ gt s.sl 3 = .ptr 1 1 0 0 ∧ gt s.sl 5 = V.i i ∧ s.hp = [cnt left2, .mem false [] [m.cells]]) (fun s => (m.cons.length - (gt s.sl 5).num).toNat) ?_ ?_) ?_
    · exact ⟨0, left', by simp [g0, g3, h']; exact Cnt.refl _⟩
    · clear g0 g3
      rintro ⟨sl, hp, bs⟩ ⟨i, left2, hi, h2, hct, hall, g0, g3, g4, rfl⟩
      by_cases hil : i < m.cons.length
      · simp [hallmarkroom_Count_Model.b1, g0, g3, g4, Model.cells, vVars, vCons, vTerms, hil]
        refine DC.mono (ok_spec left2) fun r H' ⟨hr', hH⟩ => ?_
        subst hr' hH
        by_cases h0 : 0 ≤ left2
        · simp [h0, hil, Con.cells, vTerms, vInts, vIntss]
          refine DC.mono (cntCon2_spec left2 _ h2 (hc' _ (List.getElem_mem hil))) fun r H' ⟨left3, o, h3, hct3, hf3, hH⟩ => ?_
          subst hH
          have hw : IntKind.i64.wrap ((i : Int) + 1) = ((i + 1 : Nat) : Int) := by rw [wrap64] <;> omega
          simp [hw]
          refine ⟨⟨i + 1, by omega, _, h3, fun hb => ?_, fun hb c hcc => ?_, by omega, rfl⟩, by omega⟩
          · have := (hct.trans hct3) hb
            omega
          · rw [List.take_succ_eq_append_getElem hil] at hcc
            rcases List.mem_append.1 hcc with hcc | hcc
            · exact hall h0 c hcc
            · have : c = m.cons[i] := by simpa using hcc
              subst this
              exact hf3 hb
        · simp [h0]
          exact h2
      · obtain rfl : i = m.cons.length := by omega
        simp [hallmarkroom_Count_Model.b1, g0, g3, g4, Model.cells, vVars, vCons, vTerms]
        have hl2 := h'
        unfold okLeft at hl2
        refine ⟨h2, fun hb => ?_⟩
        have hx := hct hb
        exact ⟨hv0 hx.1, by omega, by simpa using hall hb⟩
    · clear g0 g3 h' hc0 hv0 left'
      rintro e ⟨sl, hp, bs⟩ ⟨rfl, left', h', hF, g0, g3, rfl⟩
      simp [g0, g3, Model.cells, vVars, vCons, vTerms]
      refine DC.mono (add_spec _ m.goal.length h' (by omega) (by omega)) fun r H' ⟨_, hH⟩ => ?_
      subst hH
      simp
      refine ⟨addL_ok h' (by omega) (by omega), fun hb => ?_⟩
      have hx := ((Cnt.refl left').add (k := m.goal.length) (by omega)) hb
      obtain ⟨f1, f2, f3⟩ := hF hx.1
      unfold okLeft at h'
      exact ⟨f1, f2, f3, by omega⟩

end Go.Abs.G


/- Rows that are told otherwise, cell by cell. -/
namespace Go.Abs
set_option linter.unusedVariables false
theorem V.sub.rows {es : Nat} {rows rows' : List (List V)} (hl : rows.length = rows'.length) (h : ∀ (i : Nat) (r r' : List V), rows[i]? = some r → rows'[i]? = some r' → V.subL r r') : (V.view es rows).sub (.view es rows') := by
  intro c v hv
  cases hv with
  | nilv =>
    have : rows' = [] := List.eq_nil_of_length_eq_zero (by simpa using hl.symm)
    subst this; exact .nilv
  | @view _ _ _ ad cap g hb hcap hlen hg hr =>
    have row : ∀ (i : Nat) (r' : List V), rows'[i]? = some r' → ∃ r, rows[i]? = some r ∧ V.subL r r' := fun i r' hi => by
      have h1 := (List.getElem?_eq_some_iff.1 hi).1
      have h2 : i < rows.length := by omega
      exact ⟨rows[i], List.getElem?_eq_getElem h2, h i _ _ (List.getElem?_eq_getElem h2) hi⟩
    rw [hl]
    refine .view g (fun hne => hb (by rintro rfl; exact hne (List.eq_nil_of_length_eq_zero (by simpa using hl.symm)))) (by rw [← hl]; exact hcap) (fun i r' hi => ?_) (fun i r' hi j x' hj => ?_) fun i r' hi j x' hj => ?_
    · obtain ⟨r, h1, h2⟩ := row i r' hi
      rw [← h2.1]; exact hlen i r h1
    · obtain ⟨r, h1, h2⟩ := row i r' hi
      have hjr : j < r.length := by rw [h2.1]; exact (List.getElem?_eq_some_iff.1 hj).1
      exact hg i r h1 j r[j] (List.getElem?_eq_getElem hjr)
    · obtain ⟨r, h1, h2⟩ := row i r' hi
      have hjr : j < r.length := by rw [h2.1]; exact (List.getElem?_eq_some_iff.1 hj).1
      exact h2.2 j r[j] x' (List.getElem?_eq_getElem hjr) hj _ _ (hr i r h1 j r[j] (List.getElem?_eq_getElem hjr))
theorem V.sub.row1 {es : Nat} {r r' : List V} (h : V.subL r r') : (V.view es [r]).sub (.view es [r']) :=
  V.sub.rows rfl fun i a b h1 h2 => by
    cases i with
    | zero => simp at h1 h2; subst h1 h2; exact h
    | succ n => simp at h1
end Go.Abs

/- A state in short; loops that count. -/
namespace Go.Abs
set_option linter.unusedVariables false

/-- What slots hold. -/
def Sls : List (Nat × V) → St → Prop
  | [], _ => True
  | [p], s => gt s.sl p.1 = p.2
  | p :: q :: l, s => gt s.sl p.1 = p.2 ∧ Sls (q :: l) s
/-- A state: its heap, and what slots hold. -/
def At (l : List (Nat × V)) (H : Heap) (s : St) : Prop := s.hp = H ∧ Sls l s

@[simp] theorem sls_nil (s : St) : Sls [] s = True := rfl
@[simp] theorem sls_one (p : Nat × V) (s : St) : Sls [p] s = (gt s.sl p.1 = p.2) := rfl
@[simp] theorem sls_cons (p q : Nat × V) (l : List (Nat × V)) (s : St) : Sls (p :: q :: l) s = (gt s.sl p.1 = p.2 ∧ Sls (q :: l) s) := rfl

theorem least {p : Nat → Prop} (h : ∃ n, p n) : ∃ n, p n ∧ ∀ k, p k → n ≤ k := by
  obtain ⟨n, hn⟩ := h
  induction n using Nat.strongRecOn with
  | ind n ih =>
    by_cases h : ∃ k, k < n ∧ p k
    · obtain ⟨k, hk, hp⟩ := h; exact ih k hk hp
    · exact ⟨n, hn, fun k hk => by
        by_cases hkn : n ≤ k
        · exact hkn
        · exact (h ⟨k, by omega, hk⟩).elim⟩

/-- A loop that counts to n, by what holds behind i rounds. -/
theorem WI.upto {P : Program} {c : C} {Q : Ex → St → Prop} {st : St} (m : Nat) (hm : st.hp.length ≤ m) (n : Nat) (I : Nat → St → Prop) (h0 : I 0 st)
    (hr : ∀ i s, i ≤ n → I i s → vc P c (fun e s' => match e with | .norm => i < n ∧ I (i + 1) (s'.trim m) | .exit k => Q (.exit k) s' | .ret => Q .ret s') s) : WI P (.loop c) Q st := by
  classical
  let μ : St → Nat := fun s => if h : ∃ k, k ≤ n ∧ I (n - k) s then Classical.choose (least h) else 0
  refine WI.loop m hm (fun s => ∃ i, i ≤ n ∧ I i s) μ ⟨0, Nat.zero_le _, h0⟩ ?_
  rintro s ⟨i, hi, hI⟩
  have hx : ∃ k, k ≤ n ∧ I (n - k) s := ⟨n - i, by omega, by rw [show n - (n - i) = i from by omega]; exact hI⟩
  obtain ⟨⟨k1, k2⟩, k3⟩ := Classical.choose_spec (least hx)
  have hμ : μ s = Classical.choose (least hx) := dif_pos hx
  rw [hμ]
  generalize Classical.choose (least hx) = k at *
  refine vc_mono (fun e s' he => ?_) (hr (n - k) s (by omega) k2)
  cases e with
  | norm =>
    obtain ⟨e1, e2⟩ := he
    refine ⟨⟨_, by omega, e2⟩, ?_⟩
    have hy : ∃ q, q ≤ n ∧ I (n - q) (s'.trim m) := ⟨k - 1, by omega, by rw [show n - (k - 1) = n - k + 1 from by omega]; exact e2⟩
    have hμ' : μ (s'.trim m) = Classical.choose (least hy) := dif_pos hy
    rw [hμ']
    have := (Classical.choose_spec (least hy)).2 (k - 1) ⟨by omega, by rw [show n - (k - 1) = n - k + 1 from by omega]; exact e2⟩
    omega
  | exit j => exact he
  | ret => exact he

/-- The same, of what comes behind. -/
theorem vc_upto {P : Program} {c : C} {Q : Ex → St → Prop} {st : St} (m : Nat) (hm : st.hp.length ≤ m) (n : Nat) (I : Nat → St → Prop) (h0 : I 0 st)
    (hr : ∀ i s, i ≤ n → I i s → vc P c (fun e s' => match e with | .norm => i < n ∧ I (i + 1) (s'.trim m) | .exit k => Q (.exit k) s' | .ret => Q .ret s') s) : vc P (.loop c) Q st := WI.upto m hm n I h0 hr

/-- A contract that gives just this, over just this. -/
theorem DC.to {P : Program} {f : FuncId} {xs : List V} {H : Heap} {r : V} {H' : Heap} {Q : V → Heap → Prop} (h : DC P f xs H fun x K => x = r ∧ K = H') (hq : Q r H') : DC P f xs H Q :=
  DC.mono h fun x K ⟨a, b⟩ => by rw [a, b]; exact hq

/-! What each operation asks, but for calls. -/
section
variable {P : Program} {k : St → Prop} {st : St} {d : Option Nat} {x y v n m key : Operand} {l : L} {t es r len bytes : Nat} {ts ap : List Nat} {zero : List V} {parts : List (Nat × Operand)} {kd : IntKind}
@[simp] theorem vc_lt : I.vc P (.lt d l) k st = (l.pre st ∧ k (st.put d (l.val st))) := rfl
@[simp] theorem vc_frz : I.vc P (.frz t) k st = (if (gt st.sl t).ids = [] then k st else (gt st.sl t).fzP st.hp ∧ k { st with sl := up st.sl t ((gt st.sl t).fz st.hp), hp := st.hp.fz (gt st.sl t).ids }) := rfl
@[simp] theorem vc_nilv : I.vc P (.nilv t es) k st = k { st with sl := up st.sl t (if (gt st.sl t).nilSl then .view es [] else gt st.sl t) } := rfl
@[simp] theorem vc_keep : I.vc P (.keep ts) k st = k { st with sl := keepS st.sl ts } := rfl
@[simp] theorem vc_wk : I.vc P .wk k st = (∃ st', Weak st st' ∧ k st') := rfl
@[simp] theorem vc_alloc : I.vc P (.alloc d r len zero) k st = (st.hp[st.bs + r]? = some .res ∧ zero.length = len ∧ k ({ st with hp := st.hp.set (st.bs + r) (.mem false [] [zero]) }.put d (.ptr (st.bs + r) 1 0 0))) := rfl
@[simp] theorem vc_box : I.vc P (.box d r len x) k st = (st.hp[st.bs + r]? = some .res ∧ (st.ev x).sized st.hp len ∧
      k ({ st with hp := st.hp.set (st.bs + r) (.mem false (V.idsL (st.ev x).cells) [(st.ev x).cells]) }.put d (.ptr (st.bs + r) 1 0 0))) := rfl
@[simp] theorem vc_bsl : I.vc P (.bsl d r es len zero parts) k st = (st.hp[st.bs + r]? = some .res ∧ zero.length = es ∧ (∀ p ∈ parts, (st.ev p.2).sized st.hp es ∧ p.1 < len) ∧
      k ({ st with hp := st.hp.set (st.bs + r) (.mem false (V.idsL (fillV (List.flatten (List.replicate len zero)) (parts.map fun (p : Nat × Operand) => (p.1 * es, es, st.ev p.2)))) (chunk es len (fillV (List.flatten (List.replicate len zero)) (parts.map fun (p : Nat × Operand) => (p.1 * es, es, st.ev p.2))))) }.put d (.own (st.bs + r) es 0 len len))) := rfl
@[simp] theorem vc_bsv : I.vc P (.bsv d es len zero parts) k st = (zero.length = es ∧ (∀ p ∈ parts, V.idsL (st.ev p.2).cells = [] ∧ (st.ev p.2).sized st.hp es ∧ p.1 < len) ∧
      k (st.put d (I.bsvV es len zero (parts.map fun (p : Nat × Operand) => (p.1 * es, es, st.ev p.2))))) := rfl
@[simp] theorem vc_mkm : I.vc P (.mkm d r) k st = (st.hp[st.bs + r]? = some .res ∧ k ({ st with hp := st.hp.set (st.bs + r) (.map false [] []) }.put d (.mp (st.bs + r)))) := rfl
@[simp] theorem vc_mks : I.vc P (.mks d r es bytes zero n) k st = (st.hp[st.bs + r]? = some .res ∧ zero.length = es ∧ (∃ m, st.ev n = .a (.int .i64 m)) ∧ 0 ≤ (st.ev n).num ∧ (st.ev n).num * bytes ≤ 140737488355328 ∧
      k ({ st with hp := st.hp.set (st.bs + r) (.mem false [] (List.replicate (st.ev n).num.toNat zero)) }.put d (.own (st.bs + r) es 0 (st.ev n).num.toNat (st.ev n).num.toNat))) := rfl
@[simp] theorem vc_pan : I.vc P .pan k st = False := rfl
@[simp] theorem vc_store : I.vc P (.store ap len x v) k st = (match st.ev x with
    | .ptr id tot i j => match st.hp.getD id .dead with
      | .mem false refs rows => (∀ t ∈ ap, (gt st.sl t).oid ≠ some id) ∧ rows.length = tot ∧ i < tot ∧ j + len ≤ (rows.getD i []).length ∧ (st.ev v).sized st.hp len ∧
          k { st with hp := st.hp.set id (.mem false (addRefs refs (V.idsL (st.ev v).cells)) (rows.set i (rowSet (rows.getD i []) j (st.ev v).cells))) }
      | _ => False
    | _ => False) := rfl
@[simp] theorem vc_app : I.vc P (.app ap d r es bytes x y) k st = (match st.ev x with
    | .own id es' off len tot => match st.hp.getD id .dead with
      | .mem false refs rows => (∀ t ∈ ap, (gt st.sl t).oid ≠ some id) ∧ es' = es ∧ rows.length = tot ∧ off + len = tot ∧ okSl st.hp (st.ev y) ∧ (st.ev y).slEs es ∧ ((len : Int) + (st.ev y).slLen) * bytes ≤ 140737488355328 ∧
          k ({ st with hp := st.hp.set id (.mem false (addRefs refs ((st.ev y).rowIds st.hp)) (rows ++ (st.ev y).rowsOf st.hp)) }.put d (.own id es off (len + ((st.ev y).rowsOf st.hp).length) (tot + ((st.ev y).rowsOf st.hp).length)))
      | _ => False
    | .a (.slice none 0 0) => st.hp[st.bs + r]? = some .res ∧ okSl st.hp (st.ev y) ∧ (st.ev y).slEs es ∧ (st.ev y).slLen * bytes ≤ 140737488355328 ∧
          k ({ st with hp := st.hp.set (st.bs + r) (.mem false ((st.ev y).rowIds st.hp) ((st.ev y).rowsOf st.hp)) }.put d (.own (st.bs + r) es 0 ((st.ev y).rowsOf st.hp).length ((st.ev y).rowsOf st.hp).length))
    | .nul es' => es' = es ∧ st.hp[st.bs + r]? = some .res ∧ okSl st.hp (st.ev y) ∧ (st.ev y).slEs es ∧ (st.ev y).slLen * bytes ≤ 140737488355328 ∧
          (if ((st.ev y).rowsOf st.hp).isEmpty = true then k (st.put d (.nul es)) else
            k ({ st with hp := st.hp.set (st.bs + r) (.mem false ((st.ev y).rowIds st.hp) ((st.ev y).rowsOf st.hp)) }.put d (.own (st.bs + r) es 0 ((st.ev y).rowsOf st.hp).length ((st.ev y).rowsOf st.hp).length)))
    | _ => False) := rfl
@[simp] theorem vc_cpy : I.vc P (.cpy d es x y) k st = (match st.ev x with
    | .own id es' off len tot => match st.hp.getD id .dead with
      | .mem false refs rows => es' = es ∧ rows.length = tot ∧ off + len ≤ tot ∧ okSl st.hp (st.ev y) ∧ (st.ev y).slEs es ∧ (st.ev y).slLen ≤ len ∧
          k ({ st with hp := st.hp.set id (.mem false (addRefs refs ((st.ev y).rowIds st.hp)) (rows.take off ++ (st.ev y).rowsOf st.hp ++ rows.drop (off + ((st.ev y).rowsOf st.hp).length))) }.put d (.a (.int .i64 (st.ev y).slLen)))
      | _ => False
    | _ => False) := rfl
@[simp] theorem vc_mup : I.vc P (.mup ap kd m key v) k st = (match st.ev m with
    | .mp id => match st.hp.getD id .dead with
      | .map false refs es => (∀ t ∈ ap, (gt st.sl t).oid ≠ some id) ∧ (∀ e ∈ es, e.1.isKey kd = true) ∧ (st.ev key).isKey kd = true ∧
          k { st with hp := st.hp.set id (.map false (addRefs refs (V.idsL [st.ev v])) (putE es (st.ev key) (st.ev v))) }
      | _ => False
    | _ => False) := rfl

/-! Calls. -/
variable {f : FuncId} {xs : List Operand}
theorem call_go {r0 : V} {zs : List V} (hc : Pf P f zs r0) (ha : xs.map st.ev = zs) (hi : V.idsL zs = []) (hk : k (st.put d r0)) : I.vc P (.call d f xs) k st := by
  subst ha; exact ⟨hi, hc.use hk⟩
theorem callb_go {r0 : V} {zs : List V} (hc : Pf P f zs r0) (ha : V.fzL st.hp (xs.map st.ev) = zs) (hp : V.fzPL st.hp (xs.map st.ev)) (hf : okFunc P f = true) (hr : r0.flat = true) (hk : k (st.put d r0)) : I.vc P (.callb d (.func f) xs) k st := by
  rw [callb_fn]; subst ha; exact ⟨hf, hp, hc.use ⟨hr, hk⟩⟩
theorem callm_gen {zs : List V} {H0 : Heap} {Q : V → Heap → Prop} (hc : DC P f zs H0 Q) (sel : List Nat) (hs : clos st.hp 8 (addAll [] (V.idsL (xs.map st.ev))) = sel) (hok : OkSel st.hp sel) (ha : V.renL (idx sel) (xs.map st.ev) = zs) (hH : sub st.hp sel = H0)
    (hf : okFunc P f = true) (hk : ∀ r H', Q r H' → k ({ st with hp := merge st.hp sel H' }.put d (r.ren (back sel st.hp.length)))) : I.vc P (.callm d (.func f) xs) k st := by
  rw [callm_fn]; subst hs ha hH; exact ⟨hf, hok, hc.mono hk⟩
theorem callm_go {zs : List V} {H0 : Heap} {r0 : V} {H1 : Heap} (hc : DC P f zs H0 fun r H => r = r0 ∧ H = H1) (sel : List Nat) (hs : clos st.hp 8 (addAll [] (V.idsL (xs.map st.ev))) = sel) (hok : OkSel st.hp sel) (ha : V.renL (idx sel) (xs.map st.ev) = zs) (hH : sub st.hp sel = H0)
    (hf : okFunc P f = true) (hk : k ({ st with hp := merge st.hp sel H1 }.put d (r0.ren (back sel st.hp.length)))) : I.vc P (.callm d (.func f) xs) k st :=
  callm_gen hc sel hs hok ha hH hf fun r H ⟨a, b⟩ => by subst a b; exact hk
end

/-- An object that names no other. -/
structure O.clo (o : O) : Prop where
  refs : o.refs = []
  ren : ∀ f, o.ren f = o
  nres : o ≠ .res
theorem set_same {H : Heap} {k : Nat} {o : O} (h : H[k]? = some o) : H.set k o = H := by
  obtain ⟨hl, he⟩ := List.getElem?_eq_some_iff.1 h
  rw [← he]; exact List.set_getElem_self hl
section
variable {P : Program} {k : St → Prop} {st : St} {d : Option Nat} {ap : List Nat} {f : FuncId} {xs : List Operand}
end
end Go.Abs

/- Contracts: of what a call leaves, the objects that its caller wants, numbered anew. -/
namespace Go.Abs
set_option linter.unusedVariables false

theorem HOK.less {hp : Array Obj} {H : Heap} {β : Nat → Hd} {F F' : Nat → Prop} (hk : HOK hp H β F) (h : ∀ b, F' b → F b) : HOK hp H β F' ∧ (cx hp H β F).le (cx hp H β F') := by
  have hle : (cx hp H β F).le (cx hp H β F') := ⟨Nat.le_refl _, fun b hb hn => ⟨rfl, fun e => hn (e.imp id (h b))⟩, fun _ h => h, fun _ _ _ e => .inl e⟩
  exact ⟨⟨fun i o ho => (hk.ro i o ho).mono hle rfl (fun hn e => hn (e.imp (fun x => x) (h _))) fun _ _ _ _ _ _ => rfl, hk.one, fun b hb => hk.far b (h b hb)⟩, hle⟩

theorem DC.pick {P : Program} {f : FuncId} {xs : List V} {H : Heap} {Q Q' : V → Heap → Prop} (h : DC P f xs H Q)
    (hq : ∀ x H', Q x H' → ∃ sel, OkSel H' sel ∧ (∀ i, i < H.length → sel[i]? = some i) ∧ (∀ i ∈ x.ids, i ∈ sel) ∧ Q' (x.ren (idx sel)) (Abs.sub H' sel)) : DC P f xs H Q' := fun w β F vs hk hr =>
  (h w β F vs hk hr).mono fun e w' ⟨r, x, H', β2, h1, h2, h3, h4⟩ => by
    obtain ⟨sel, ok, hn, hx, hQ⟩ := hq x H' h4
    obtain ⟨k1, k2⟩ := (sub_ok h2.hok ok).less (F' := F) fun b hb => .inl hb
    have hsub : ∀ id, id < H.length → (Abs.sub H' sel)[id]? = (H'[id]?).map (O.ren (idx sel)) ∧ βsub β2 sel id = β2 id := fun id hid => by
      obtain ⟨h5, h6⟩ := List.getElem?_eq_some_iff.1 (hn id hid)
      have h7 : sel.getD id 0 = id := by simp [List.getD, hn id hid]
      exact ⟨by rw [sub_get ok h5, h7], by unfold βsub; rw [h7]⟩
    refine ⟨r, _, _, βsub β2 sel, h1, ⟨k1, ⟨h2.le.size, fun b hb hno => ⟨(h2.le.same b hb hno).1, fun e => (h2.le.same b hb hno).2 ?_⟩, fun id hl => ?_, fun id g' hl e => ?_⟩, h2.ext⟩, ?_, hQ⟩
    · rcases e with ⟨j, e⟩ | e
      · exact .inl ⟨_, (owns_sub ok e).2⟩
      · exact .inr e
    · have hlt : id < H.length := by obtain ⟨o, e, _⟩ := hl; exact lt_of_get e
      exact (liveIn_ren (hsub id hlt).1).2 (h2.le.live id hl)
    · have hlt : id < H.length := by obtain ⟨o, e, _⟩ := hl; exact lt_of_get e
      refine h2.le.hd id g' hl ?_
      have e' : hdOf (Abs.sub H' sel) (βsub β2 sel) id = some g' := e
      rw [hdOf_ren (hsub id hlt).1 (hsub id hlt).2] at e'
      exact e'
    · have h5 := (h3.onlyOf x.ids fun i hi => hi).ren (ren_sub (w := w') (F := F) ok hx)
      exact h5.up.mono k2

/-- The same, for results that are just this, over just this. -/
theorem DC.picks {P : Program} {f : FuncId} {xs : List V} {H : Heap} {Q : V → Heap → Prop} {r : V} {K : Heap} (h : DC P f xs H Q)
    (hq : ∀ x H', Q x H' → ∃ sel, OkSel H' sel ∧ (∀ i, i < H.length → sel[i]? = some i) ∧ (∀ i ∈ x.ids, i ∈ sel) ∧ x.ren (idx sel) = r ∧ Abs.sub H' sel = K) : DC P f xs H fun x H' => x = r ∧ H' = K :=
  h.pick fun x H' hQ => by obtain ⟨sel, a, b, c, d, e⟩ := hq x H' hQ; exact ⟨sel, a, b, c, d, e⟩

/-- A slice without elements, as one of its own. -/
theorem DC.ownnil {P : Program} {f : FuncId} {xs : List V} {H : Heap} {Q Q' : V → Heap → Prop} (h : DC P f xs H Q)
    (hq : ∀ x H', Q x H' → Q' x H' ∨ ∃ es, (x = .a (.slice none 0 0) ∨ ∃ es', x = .nul es') ∧ Q' (.own H'.length es 0 0 0) (H' ++ [.mem false [] []])) : DC P f xs H Q' := fun w β F vs hk hr =>
  (h w β F vs hk hr).mono fun e w' ⟨r, x, H', β2, h1, h2, h3, h4⟩ => by
    rcases hq x H' h4 with hQ | ⟨es, hx, hQ⟩
    · exact ⟨r, x, H', β2, h1, h2, h3, hQ⟩
    · obtain ⟨ad, rfl⟩ : ∃ ad, r = .slice ad 0 0 := by
        rcases hx with rfl | ⟨es', rfl⟩
        · exact ⟨none, h3.of_a⟩
        · cases h3 with
          | nul => exact ⟨_, rfl⟩
      have a1 := adv_res (F := F) h2.hok 1
      have hg : (H' ++ List.replicate 1 O.res)[H'.length]? = some O.res := by simp
      have a2 := new_nil (es := es) (refs := []) (F := F) a1.hok hg
      have e : (H' ++ List.replicate 1 O.res).set H'.length (.mem false [] []) = H' ++ [.mem false [] []] := by
        rw [List.set_append, if_neg (by omega), Nat.sub_self]; rfl
      have a3 := nil_own (es := es) (refs := []) (ad := ad) (hp := w'.heap) (F := F) (β := β2) hg
      rw [e] at a2 a3
      exact ⟨_, _, _, _, h1, h2.trans (a1.trans a2), a3, hQ⟩

end Go.Abs

/- Many objects at once. -/
namespace Go.Abs
set_option linter.unusedVariables false
section
variable {w : World} {β : Nat → Hd} {F : Nat → Prop} {H : Heap}
end
end Go.Abs

/- A struct whose second cell is a nil slice, as one that owns a slice there. -/
namespace Go.Abs
set_option linter.unusedVariables false

section
variable {w : World} {β : Nat → Hd} {F : Nat → Prop} {H : Heap}
end

end Go.Abs

/- The objects that a struct's cells may name, told closer. -/
namespace Go.Abs
set_option linter.unusedVariables false
end Go.Abs

/- A slice of one's own of no elements, of memory that has some. -/
namespace Go.Abs
set_option linter.unusedVariables false
end Go.Abs

/- An argument nil, as a slice of one's own without elements. -/
namespace Go.Abs
set_option linter.unusedVariables false
end Go.Abs

namespace Go.Abs.G
open Go.Proofs
set_option linter.unusedVariables false
set_option linter.unusedSimpArgs false
attribute [local simp] I.vc

end Go.Abs.G


namespace Go.Abs.G
open Go.Proofs
set_option linter.unusedVariables false
set_option linter.unusedSimpArgs false

section
variable {s : List Dom} {rf : List Nat} {R : List (List V)} {Es L : Heap} {n c : Nat}
end

/-- A copy's slice of marks: where each lies. -/
def cR (b : Nat) (ms : List (List Dom)) (i : Nat) : List (List V) := ((ms.take i).zipIdx).map fun p => [.own (b + 3 * p.2) 4 0 p.1.length p.1.length]
/-- What stands behind i marks copied, behind the original. -/
inductive CI (s : List Dom) (ms : List (List Dom)) (n : Nat) : Nat → Heap → Prop where
  | zero {i : Nat} (hi : i = 0) : CI s ms n i [.mem false [n + 1] [[.own (n + 1) 4 0 s.length s.length, nilS]], .mem false [] (s.map Dom.row)]
  | some {i : Nat} {rf rf' : List Nat} {G : O} {T : Heap} (hi : 0 < i) (hl : T.length = 3 * i - 2) (hk : ∀ j L, j < i → ms[j]? = some L → T[3 * j]? = some (.mem false [] (L.map Dom.row)))
      (hr : ∀ r ∈ rf, r < n + 4 + 3 * i) (hr' : ∀ r ∈ rf', r < n + 4 + 3 * i) : CI s ms n i (.mem false rf [[.own (n + 1) 4 0 s.length s.length, .own (n + 3) 1 0 i i]] :: .mem false [] (s.map Dom.row) :: G :: .mem false rf' (cR (n + 4) ms i) :: T)

theorem CI.len {s : List Dom} {ms : List (List Dom)} {n i : Nat} {E : Heap} (h : CI s ms n i E) : E.length = 2 + 3 * i := by
  cases h with
  | zero hi => simp [hi]
  | some hi hl hk hr hr' => simp [hl]; omega
theorem limO_of {m : Nat} {o : O} (h : ∀ r ∈ o.refs, r < m) : limO m o = o := by
  unfold limO; rw [if_pos (List.all_eq_true.2 fun r hr => by simpa using h r hr)]
theorem CI.trim {s : List Dom} {ms : List (List Dom)} {n i m : Nat} {E : Heap} (h : CI s ms n i E) (hm : n + 4 + 3 * i ≤ m) : CI s ms n i (E.map (limO m)) := by
  cases h with
  | zero hi =>
    rw [List.map_cons, List.map_cons, List.map_nil, limO_of (by simp [O.refs]; omega), limO_of (by simp [O.refs])]
    exact .zero hi
  | some hi hl hk hr hr' =>
    rw [List.map_cons, List.map_cons, List.map_cons, List.map_cons, limO_of (fun r h => by have := hr r h; omega), limO_of (by simp [O.refs]), limO_of (o := .mem false _ (cR (n + 4) ms i)) (fun r h => by have := hr' r h; omega)]
    refine .some hi (by simpa using hl) (fun j L hj hL => ?_) hr hr'
    rw [List.getElem?_map, hk j L hj hL, Option.map_some, limO_of (by simp [O.refs])]
end Go.Abs.G


namespace Go.Abs.G
open Go.Proofs
set_option linter.unusedVariables false
set_option linter.unusedSimpArgs false

end Go.Abs.G


namespace Go.Abs.G
open Go.Proofs
set_option linter.unusedVariables false
set_option linter.unusedSimpArgs false

end Go.Abs.G


namespace Go.Abs.G
open Go.Proofs
set_option linter.unusedVariables false
set_option linter.unusedSimpArgs false

/-- A store that lies open somewhere. -/
structure Uat (H : Heap) (s : List Dom) (T : List (List Ce)) (p a b : Nat) : Prop where
  h0 : H[p]? = some (.mem false [a, b] [[.own a 4 0 s.length s.length, .own b 1 0 T.length T.length]])
  h1 : H[a]? = some (.mem false [] (s.map Dom.row))
  h2 : H[b]? = some (.tree [] T)
  na : p ≠ a
  nb : p ≠ b
  nab : a ≠ b

section
variable {H : Heap} {s : List Dom} {T : List (List Ce)} {p a b : Nat}
theorem Uat.sub (h : Uat H s T p a b) (hT : ∀ f, Ce.renR f T = T) : Abs.sub H [p, a, b] = U s T := by
  have i1 : idx [p, a, b] a = 1 := by simp [idx, List.idxOf_cons, beq_false_of_ne h.na]
  have i2 : idx [p, a, b] b = 2 := by simp [idx, List.idxOf_cons, beq_false_of_ne h.nb, beq_false_of_ne h.nab]
  simp [-idx, Abs.sub, getD_some h.h0, getD_some h.h1, getD_some h.h2, h.h0, h.h1, h.h2, O.ren, V.renL, V.ren, i1, i2, hT, U, Function.comp_def]
theorem Uat.ok (h : Uat H s T p a b) : OkSel H [p, a, b] := by
  refine ⟨by simp [h.na, h.nb, h.nab], fun i hi => ?_, fun i hi => ?_, fun i hi k hk => ?_⟩ <;> (simp only [List.mem_cons, List.not_mem_nil, or_false] at hi)
  · rcases hi with rfl | rfl | rfl
    · exact lt_of_get h.h0
    · exact lt_of_get h.h1
    · exact lt_of_get h.h2
  · rcases hi with rfl | rfl | rfl
    · rw [getD_some h.h0]; simp
    · rw [getD_some h.h1]; simp
    · rw [getD_some h.h2]; simp
  · rcases hi with rfl | rfl | rfl
    · rw [getD_some h.h0] at hk; simp [O.refs] at hk ⊢; exact .inr hk
    · rw [getD_some h.h1] at hk; simp [O.refs] at hk
    · rw [getD_some h.h2] at hk; simp [O.refs] at hk
theorem Uat.clos (h : Uat H s T p a b) : clos H 8 [p] = [p, a, b] := by
  have h3 : ∀ n, Abs.clos H n [p, a, b] = [p, a, b] := fun n => clos_stop H n _ h.ok.cl
  have cs : ∀ n l, Abs.clos H (n + 1) l = Abs.clos H n (addAll l (l.flatMap fun i => (H.getD i .dead).refs)) := fun _ _ => rfl
  rw [cs 7]
  simp only [List.flatMap_cons, List.flatMap_nil, getD_some h.h0, O.refs, List.append_nil]
  have : addAll [p] [a, b] = [p, a, b] := by simp [addAll, Ne.symm h.na, Ne.symm h.nb, Ne.symm h.nab]
  rw [this]; exact h3 7
theorem Uat.merge (h : Uat H s T p a b) (hT : ∀ f, Ce.renR f T = T) : merge H [p, a, b] (U s T) = H := by
  have i1 : back [p, a, b] H.length 1 = a := rfl
  have i2 : back [p, a, b] H.length 2 = b := rfl
  have e0 : O.ren (back [p, a, b] H.length) (.mem false [1, 2] [[.own 1 4 0 s.length s.length, .own 2 1 0 T.length T.length]]) = .mem false [a, b] [[.own a 4 0 s.length s.length, .own b 1 0 T.length T.length]] := by simp [O.ren, V.renL, V.ren, i1, i2]
  have e1 : O.ren (back [p, a, b] H.length) (.mem false [] (s.map Dom.row)) = .mem false [] (s.map Dom.row) := by simp [O.ren, Function.comp_def]
  have e2 : O.ren (back [p, a, b] H.length) (.tree [] T) = .tree [] T := by simp [O.ren, hT]
  simp only [Abs.merge, U, List.length_cons, List.length_nil, Nat.zero_add, Nat.reduceAdd, List.take_succ_cons, List.take_zero, List.map_cons, List.map_nil, List.drop_succ_cons, List.drop_zero, List.append_nil, e0, e1, e2, place]
  rw [set_same h.h0, set_same h.h1, set_same h.h2]
end

end Go.Abs.G


namespace Go.Abs.G
open Go.Proofs
set_option linter.unusedVariables false
set_option linter.unusedSimpArgs false

@[simp] theorem St1_lim (n : Nat) (s : List Dom) (T : List (List Ce)) : limO n (St1 s T) = St1 s T := by simp [St1, limO, O.refs]

end Go.Abs.G


/- Evaluation that leaves what comes behind alone. -/
namespace Go.Abs
set_option linter.unusedVariables false

def vcF (P : Program) (c : C) (Q : Ex → St → Prop) [Fix Q] (st : St) : Prop := vc P c Q st
def vcItsF (P : Program) (l : List It) (k : St → Prop) [Fix k] (st : St) : Prop := vcIts P l k st
def IvcF (P : Program) (i : I) (k : St → Prop) [Fix k] (st : St) : Prop := i.vc P k st

section
variable {P : Program} {Q : Ex → St → Prop} {st : St} {x : Operand} {a b c : C} {k : St → Prop} {l its : List It} {j t n id : Nat} {want : Bool} {d : Option Nat} {i : I}
@[simp ↓ high] theorem vcF_of : vc P c Q st = vcF P c Q st := propext Iff.rfl
@[simp ↓ high] theorem vcItsF_of : vcIts P l k st = vcItsF P l k st := propext Iff.rfl
@[simp ↓ high] theorem IvcF_of : I.vc P i k st = IvcF P i k st := propext Iff.rfl
@[simp] theorem vcF_skip : vcF P .skip Q st = Q .norm st := propext Iff.rfl
@[simp] theorem vcF_reg : vcF P (.reg n its) Q st = vcItsF P its (Q .norm) (st.res n) := propext Iff.rfl
@[simp] theorem vcF_seq : vcF P (.seq a b) Q st = vcF P a (fun e s => match e with | .norm => vcF P b Q s | .exit i => Q (.exit i) s | .ret => Q .ret s) st := propext Iff.rfl
@[simp] theorem vcF_block : vcF P (.block id c) Q st = vcF P c (fun e s => match e with | .norm => Q .norm s | .exit i => if i = id then Q .norm s else Q (.exit i) s | .ret => Q .ret s) st := propext Iff.rfl
@[simp] theorem vcF_exit : vcF P (.exit id) Q st = Q (.exit id) st := propext Iff.rfl
@[simp] theorem vcF_ret : vcF P .ret Q st = Q .ret st := propext Iff.rfl
@[simp] theorem vcF_cond_true (h : st.ev x = .a (.bool true)) : vcF P (.cond x a b) Q st = vcF P a Q st := by
  unfold vcF; simp only [vc, h]; exact propext ⟨fun q => q.1 trivial, fun q => ⟨fun _ => q, fun e => by cases e⟩⟩
@[simp] theorem vcF_cond_false (h : st.ev x = .a (.bool false)) : vcF P (.cond x a b) Q st = vcF P b Q st := by
  unfold vcF; simp only [vc, h]; exact propext ⟨fun q => q.2 trivial, fun q => ⟨(fun e => by cases e), fun _ => q⟩⟩
@[simp] theorem vcItsF_nil : vcItsF P [] k st = k st := propext Iff.rfl
@[simp] theorem vcItsF_g : vcItsF P (.g i :: l) k st = IvcF P i (vcItsF P l k) st := propext Iff.rfl
@[simp] theorem vcItsF_o : vcItsF P (.o j i :: l) k st = IvcF P i (vcItsF P l k) st := propext Iff.rfl
@[simp] theorem vcItsF_gd_pos (h : gt st.sl t = .a (.bool want)) : vcItsF P (.gd j t want d i :: l) k st = IvcF P i (vcItsF P l k) (st.put (some t) (.bool want)) := by
  unfold vcItsF IvcF; simp only [vcIts, h]; exact propext ⟨fun q => q.1 trivial, fun q => ⟨fun _ => q, fun e => by cases want <;> cases e⟩⟩
@[simp] theorem vcItsF_gd_neg (h : gt st.sl t = .a (.bool (!want))) : vcItsF P (.gd j t want d i :: l) k st = vcItsF P l k ((st.put (some t) (.bool !want)).put d (.a undef)) := by
  unfold vcItsF; simp only [vcIts, h]; exact propext ⟨fun q => q.2 trivial, fun q => ⟨(fun e => by cases want <;> cases e), fun _ => q⟩⟩
@[simp] theorem vcItsF_gd_un (h : gt st.sl t = .a (.tuple #[])) : vcItsF P (.gd j t want d i :: l) k st = vcItsF P l k (st.put d (.a undef)) := by unfold vcItsF; simp only [vcIts, h]
end
/-! What each operation asks, but for calls. -/
section
variable {P : Program} {k : St → Prop} {st : St} {d : Option Nat} {x y v n m key : Operand} {l : L} {t es r len bytes : Nat} {ts ap : List Nat} {zero : List V} {parts : List (Nat × Operand)} {kd : IntKind}
@[simp] theorem F_lt : IvcF P (.lt d l) k st = (l.pre st ∧ k (st.put d (l.val st))) := propext Iff.rfl
@[simp] theorem F_frz : IvcF P (.frz t) k st = (if (gt st.sl t).ids = [] then k st else (gt st.sl t).fzP st.hp ∧ k { st with sl := up st.sl t ((gt st.sl t).fz st.hp), hp := st.hp.fz (gt st.sl t).ids }) := propext Iff.rfl
@[simp] theorem F_nilv : IvcF P (.nilv t es) k st = k { st with sl := up st.sl t (if (gt st.sl t).nilSl then .view es [] else gt st.sl t) } := propext Iff.rfl
@[simp] theorem F_keep : IvcF P (.keep ts) k st = k { st with sl := keepS st.sl ts } := propext Iff.rfl
@[simp] theorem F_wk : IvcF P .wk k st = (∃ st', Weak st st' ∧ k st') := propext Iff.rfl
@[simp] theorem F_alloc : IvcF P (.alloc d r len zero) k st = (st.hp[st.bs + r]? = some .res ∧ zero.length = len ∧ k ({ st with hp := st.hp.set (st.bs + r) (.mem false [] [zero]) }.put d (.ptr (st.bs + r) 1 0 0))) := propext Iff.rfl
@[simp] theorem F_box : IvcF P (.box d r len x) k st = (st.hp[st.bs + r]? = some .res ∧ (st.ev x).sized st.hp len ∧
      k ({ st with hp := st.hp.set (st.bs + r) (.mem false (V.idsL (st.ev x).cells) [(st.ev x).cells]) }.put d (.ptr (st.bs + r) 1 0 0))) := propext Iff.rfl
@[simp] theorem F_bsl : IvcF P (.bsl d r es len zero parts) k st = (st.hp[st.bs + r]? = some .res ∧ zero.length = es ∧ (∀ p ∈ parts, (st.ev p.2).sized st.hp es ∧ p.1 < len) ∧
      k ({ st with hp := st.hp.set (st.bs + r) (.mem false (V.idsL (fillV (List.flatten (List.replicate len zero)) (parts.map fun (p : Nat × Operand) => (p.1 * es, es, st.ev p.2)))) (chunk es len (fillV (List.flatten (List.replicate len zero)) (parts.map fun (p : Nat × Operand) => (p.1 * es, es, st.ev p.2))))) }.put d (.own (st.bs + r) es 0 len len))) := propext Iff.rfl
@[simp] theorem F_bsv : IvcF P (.bsv d es len zero parts) k st = (zero.length = es ∧ (∀ p ∈ parts, V.idsL (st.ev p.2).cells = [] ∧ (st.ev p.2).sized st.hp es ∧ p.1 < len) ∧
      k (st.put d (I.bsvV es len zero (parts.map fun (p : Nat × Operand) => (p.1 * es, es, st.ev p.2))))) := propext Iff.rfl
@[simp] theorem F_mkm : IvcF P (.mkm d r) k st = (st.hp[st.bs + r]? = some .res ∧ k ({ st with hp := st.hp.set (st.bs + r) (.map false [] []) }.put d (.mp (st.bs + r)))) := propext Iff.rfl
@[simp] theorem F_mks : IvcF P (.mks d r es bytes zero n) k st = (st.hp[st.bs + r]? = some .res ∧ zero.length = es ∧ (∃ m, st.ev n = .a (.int .i64 m)) ∧ 0 ≤ (st.ev n).num ∧ (st.ev n).num * bytes ≤ 140737488355328 ∧
      k ({ st with hp := st.hp.set (st.bs + r) (.mem false [] (List.replicate (st.ev n).num.toNat zero)) }.put d (.own (st.bs + r) es 0 (st.ev n).num.toNat (st.ev n).num.toNat))) := propext Iff.rfl
@[simp] theorem F_pan : IvcF P .pan k st = False := propext Iff.rfl
@[simp] theorem F_store : IvcF P (.store ap len x v) k st = (match st.ev x with
    | .ptr id tot i j => match st.hp.getD id .dead with
      | .mem false refs rows => (∀ t ∈ ap, (gt st.sl t).oid ≠ some id) ∧ rows.length = tot ∧ i < tot ∧ j + len ≤ (rows.getD i []).length ∧ (st.ev v).sized st.hp len ∧
          k { st with hp := st.hp.set id (.mem false (addRefs refs (V.idsL (st.ev v).cells)) (rows.set i (rowSet (rows.getD i []) j (st.ev v).cells))) }
      | _ => False
    | _ => False) := propext Iff.rfl
@[simp] theorem F_app : IvcF P (.app ap d r es bytes x y) k st = (match st.ev x with
    | .own id es' off len tot => match st.hp.getD id .dead with
      | .mem false refs rows => (∀ t ∈ ap, (gt st.sl t).oid ≠ some id) ∧ es' = es ∧ rows.length = tot ∧ off + len = tot ∧ okSl st.hp (st.ev y) ∧ (st.ev y).slEs es ∧ ((len : Int) + (st.ev y).slLen) * bytes ≤ 140737488355328 ∧
          k ({ st with hp := st.hp.set id (.mem false (addRefs refs ((st.ev y).rowIds st.hp)) (rows ++ (st.ev y).rowsOf st.hp)) }.put d (.own id es off (len + ((st.ev y).rowsOf st.hp).length) (tot + ((st.ev y).rowsOf st.hp).length)))
      | _ => False
    | .a (.slice none 0 0) => st.hp[st.bs + r]? = some .res ∧ okSl st.hp (st.ev y) ∧ (st.ev y).slEs es ∧ (st.ev y).slLen * bytes ≤ 140737488355328 ∧
          k ({ st with hp := st.hp.set (st.bs + r) (.mem false ((st.ev y).rowIds st.hp) ((st.ev y).rowsOf st.hp)) }.put d (.own (st.bs + r) es 0 ((st.ev y).rowsOf st.hp).length ((st.ev y).rowsOf st.hp).length))
    | .nul es' => es' = es ∧ st.hp[st.bs + r]? = some .res ∧ okSl st.hp (st.ev y) ∧ (st.ev y).slEs es ∧ (st.ev y).slLen * bytes ≤ 140737488355328 ∧
          (if ((st.ev y).rowsOf st.hp).isEmpty = true then k (st.put d (.nul es)) else
            k ({ st with hp := st.hp.set (st.bs + r) (.mem false ((st.ev y).rowIds st.hp) ((st.ev y).rowsOf st.hp)) }.put d (.own (st.bs + r) es 0 ((st.ev y).rowsOf st.hp).length ((st.ev y).rowsOf st.hp).length)))
    | _ => False) := propext Iff.rfl
@[simp] theorem F_cpy : IvcF P (.cpy d es x y) k st = (match st.ev x with
    | .own id es' off len tot => match st.hp.getD id .dead with
      | .mem false refs rows => es' = es ∧ rows.length = tot ∧ off + len ≤ tot ∧ okSl st.hp (st.ev y) ∧ (st.ev y).slEs es ∧ (st.ev y).slLen ≤ len ∧
          k ({ st with hp := st.hp.set id (.mem false (addRefs refs ((st.ev y).rowIds st.hp)) (rows.take off ++ (st.ev y).rowsOf st.hp ++ rows.drop (off + ((st.ev y).rowsOf st.hp).length))) }.put d (.a (.int .i64 (st.ev y).slLen)))
      | _ => False
    | _ => False) := propext Iff.rfl
@[simp] theorem F_mup : IvcF P (.mup ap kd m key v) k st = (match st.ev m with
    | .mp id => match st.hp.getD id .dead with
      | .map false refs es => (∀ t ∈ ap, (gt st.sl t).oid ≠ some id) ∧ (∀ e ∈ es, e.1.isKey kd = true) ∧ (st.ev key).isKey kd = true ∧
          k { st with hp := st.hp.set id (.map false (addRefs refs (V.idsL [st.ev v])) (putE es (st.ev key) (st.ev v))) }
      | _ => False
    | _ => False) := propext Iff.rfl

end

/-! Calls, as steps. -/
section
variable {P : Program} {k : St → Prop} {st : St} {d : Option Nat} {ap : List Nat} {f : FuncId} {xs : List Operand}
theorem gcall {r0 : V} {zs : List V} (hc : Pf P f zs r0) (ha : xs.map st.ev = zs) (hi : V.idsL zs = []) (hk : k (st.put d r0)) : IvcF P (.call d f xs) k st := call_go hc ha hi hk
theorem gcall_gen {zs : List V} {Q : V → Prop} (hc : DP P f zs Q) (ha : xs.map st.ev = zs) (hi : V.idsL zs = []) (hk : ∀ r, Q r → k (st.put d r)) : IvcF P (.call d f xs) k st := by
  subst ha; exact ⟨hi, hc.mono hk⟩
theorem gcallb {r0 : V} {zs : List V} (hc : Pf P f zs r0) (ha : V.fzL st.hp (xs.map st.ev) = zs) (hp : V.fzPL st.hp (xs.map st.ev)) (hf : okFunc P f = true) (hr : r0.flat = true) (hk : k (st.put d r0)) : IvcF P (.callb d (.func f) xs) k st := callb_go hc ha hp hf hr hk
theorem gcallm {zs : List V} {H0 : Heap} {r0 : V} {H1 : Heap} (hc : DC P f zs H0 fun r H => r = r0 ∧ H = H1) (sel : List Nat) (hs : clos st.hp 8 (addAll [] (V.idsL (xs.map st.ev))) = sel) (hok : OkSel st.hp sel) (ha : V.renL (idx sel) (xs.map st.ev) = zs) (hH : sub st.hp sel = H0)
    (hf : okFunc P f = true) (hk : k ({ st with hp := merge st.hp sel H1 }.put d (r0.ren (back sel st.hp.length)))) : IvcF P (.callm d (.func f) xs) k st := callm_go hc sel hs hok ha hH hf hk
theorem gcallm_gen {zs : List V} {H0 : Heap} {Q : V → Heap → Prop} (hc : DC P f zs H0 Q) (sel : List Nat) (hs : clos st.hp 8 (addAll [] (V.idsL (xs.map st.ev))) = sel) (hok : OkSel st.hp sel) (ha : V.renL (idx sel) (xs.map st.ev) = zs) (hH : sub st.hp sel = H0)
    (hf : okFunc P f = true) (hk : ∀ r H', Q r H' → k ({ st with hp := merge st.hp sel H' }.put d (r.ren (back sel st.hp.length)))) : IvcF P (.callm d (.func f) xs) k st := callm_gen hc sel hs hok ha hH hf hk
end
end Go.Abs

/- Rows of whole numbers. -/
namespace Go.Abs.G
set_option linter.unusedVariables false
section
variable {P : Program} {k : St → Prop} {st : St} {d : Option Nat} {x : Operand} {es : Nat} {zero : List V}
@[simp] theorem F_clr : IvcF P (.clr d es zero x) k st = (match st.ev x with
    | .own id es' off len tot => match st.hp.getD id .dead with
      | .mem false refs rows => es' = es ∧ rows.length = tot ∧ off + len ≤ tot ∧ zero.length = es ∧
          k ({ st with hp := st.hp.set id (.mem false refs (rows.take off ++ List.replicate len zero ++ rows.drop (off + len))) }.put d (.a (.tuple #[])))
      | _ => False
    | .a (.slice none 0 0) => k (st.put d (.a (.tuple #[])))
    | _ => False) := propext Iff.rfl
end
def ri (l : List Int) : List (List V) := l.map fun n => [V.i n]
theorem ri_len (l : List Int) : (ri l).length = l.length := by simp [ri]
theorem ri_ren (f : Nat → Nat) (l : List Int) : (ri l).map (fun r => V.renL f r) = ri l := by simp [ri]
end Go.Abs.G


/- The order encoding, plain. -/
namespace Go.Abs.G
set_option linter.unusedVariables false

structure Pl where
  lo : Int
  hi : Int
  st : Int
  kd : Int
structure Tb where
  below : Int
  xs : List Int
  rows : List (List Int)
structure Od where
  ps : List Pl
  ts : List Tb
  n : Int

def psum (f : Nat → Int) : Nat → Int
  | 0 => 0
  | n + 1 => psum f n + f n
theorem psum_mono {f : Nat → Int} (h : ∀ i, 0 ≤ f i) : ∀ {a b : Nat}, a ≤ b → psum f a ≤ psum f b := by
  intro a b hab
  induction b with
  | zero => have : a = 0 := by omega
            subst this; exact Int.le_refl _
  | succ b ih =>
    by_cases e : a = b + 1
    · subst e; exact Int.le_refl _
    · have := ih (by omega); have := h b
      show psum f a ≤ psum f b + f b
      omega
theorem psum_step {f : Nat → Int} (h : ∀ i, 0 ≤ f i) {a b : Nat} (hab : a < b) : psum f a + f a ≤ psum f b := psum_mono h (a := a + 1) hab
theorem psum_le {f : Nat → Int} {c : Int} (h : ∀ i, f i ≤ c) : ∀ n : Nat, psum f n ≤ c * n
  | 0 => by simp [psum]
  | n + 1 => by
    have := psum_le h n; have := h n
    show psum f n + f n ≤ c * ((n : Int) + 1)
    rw [Int.mul_add, Int.mul_one]; omega

def v0 : Var := ⟨⟨#[]⟩, 0, 0⟩
def c0 : Con := ⟨0, 0, [], 0, 0, 0, 0, [], [], []⟩
def vAt (m : Model) (i : Nat) : Var := m.vars.getD i v0
def cAt (m : Model) (i : Nat) : Con := m.cons.getD i c0
def chosen (m : Model) (x : Nat) : Bool := m.cons.any fun c => (decide (c.kind = 3) || decide (c.kind = 9)) && decide ((x : Int) ∈ c.xs)
def w1 (m : Model) (i : Nat) : Int := (vAt m i).hi - (vAt m i).lo
def w2 (m : Model) (i : Nat) : Int := if chosen m i then w1 m i + 1 else 0
def w3 (m : Model) (i : Nat) : Int := if (cAt m i).kind = 8 then ((cAt m i).rows.length : Int) else 0
def An (m : Model) : Int := psum (w1 m) m.vars.length
def Bn (m : Model) : Int := An m + psum (w2 m) m.vars.length
def Nn (m : Model) : Int := Bn m + psum (w3 m) m.cons.length
def sO (m : Model) (i : Nat) : Int := psum (w1 m) i
def kO (m : Model) (i : Nat) : Int := An m + psum (w2 m) i
def tO (m : Model) (i : Nat) : Int := Bn m + psum (w3 m) i
def plO (m : Model) (i : Nat) : Pl := ⟨(vAt m i).lo, (vAt m i).hi, if (vAt m i).lo < (vAt m i).hi then sO m i + 1 else 0, if chosen m i then kO m i + 1 else 0⟩
def tbO (m : Model) (i : Nat) : Tb := if (cAt m i).kind = 8 then ⟨tO m i, (cAt m i).xs, (cAt m i).rows⟩ else ⟨-1, [], []⟩
def orderOf (m : Model) : Od := ⟨(List.range m.vars.length).map (plO m), (List.range m.cons.length).map (tbO m), Nn m⟩

def spanNum (f l m v : Int) : Int := if f = 0 ∨ v < l ∨ m < v then 0 else f + v - l
def spanVal (f l m n : Int) : Int × Bool := (l + n - f, decide (0 < f) && (decide (f ≤ n) && decide (n ≤ f + m - l)))
structure Mean where
  x : Int
  v : Int
  is : Bool
  con : Int
  row : Int
  pick : Bool
  deriving DecidableEq
def ofP (n : Int) : Nat → List Pl → Option Mean
  | _, [] => none
  | i, p :: l => if (spanVal p.st (p.lo + 1) p.hi n).2 = true ∧ p.lo < p.hi then some ⟨i, (spanVal p.st (p.lo + 1) p.hi n).1, false, 0, 0, false⟩
    else if (spanVal p.kd p.lo p.hi n).2 = true then some ⟨i, (spanVal p.kd p.lo p.hi n).1, true, 0, 0, false⟩ else ofP n (i + 1) l
def ofT (n : Int) : Nat → List Tb → Option Mean
  | _, [] => none
  | i, t :: l => if t.below ≠ -1 ∧ 0 ≤ n - t.below - 1 ∧ n - t.below - 1 < t.rows.length then some ⟨0, 0, false, i, n - t.below - 1, true⟩ else ofT n (i + 1) l
def ofO (o : Od) (n : Int) : Option Mean := (ofP n 0 o.ps).or (ofT n 0 o.ts)
def isO (o : Od) (x : Int) : Bool := decide (0 ≤ x) && decide (x < o.ps.length)
def atO (o : Od) (x : Int) : Pl := if isO o x then o.ps.getD x.toNat ⟨0, 0, 0, 0⟩ else ⟨0, 0, 0, 0⟩
def leastO (o : Od) (x k : Int) : Int × Int :=
  if isO o x = false then (0, 0) else if k ≤ (atO o x).lo then (0, 2) else if (atO o x).hi < k then (0, 3) else (spanNum (atO o x).st ((atO o x).lo + 1) (atO o x).hi k, 1)
def kindO (o : Od) (x v : Int) : Int × Int :=
  if (atO o x).kd = 0 then (0, 0) else if 0 < spanNum (atO o x).kd (atO o x).lo (atO o x).hi v then (spanNum (atO o x).kd (atO o x).lo (atO o x).hi v, 1) else (0, 3)
def pickO (o : Od) (c r : Int) : Int × Int :=
  if c < 0 ∨ o.ts.length ≤ c then (0, 0) else
  if r < 0 ∨ ((o.ts.getD c.toNat ⟨-1, [], []⟩).rows.length : Int) ≤ r then (0, 0) else ((o.ts.getD c.toNat ⟨-1, [], []⟩).below + r + 1, 1)

theorem ofP_none {n : Int} : ∀ {l : List Pl} {i : Nat}, (∀ p ∈ l, ¬ ((spanVal p.st (p.lo + 1) p.hi n).2 = true ∧ p.lo < p.hi) ∧ ¬ (spanVal p.kd p.lo p.hi n).2 = true) → ofP n i l = none
  | [], _, _ => rfl
  | p :: l, i, h => by
    have hp := h p (by simp)
    rw [ofP, if_neg hp.1, if_neg hp.2]
    exact ofP_none fun q hq => h q (by simp [hq])
theorem ofP_skip {n : Int} : ∀ {l k : List Pl} {i : Nat}, (∀ p ∈ l, ¬ ((spanVal p.st (p.lo + 1) p.hi n).2 = true ∧ p.lo < p.hi) ∧ ¬ (spanVal p.kd p.lo p.hi n).2 = true) → ofP n i (l ++ k) = ofP n (i + l.length) k
  | [], k, i, _ => rfl
  | p :: l, k, i, h => by
    have hp := h p (by simp)
    rw [List.cons_append, ofP, if_neg hp.1, if_neg hp.2, ofP_skip fun q hq => h q (by simp [hq])]
    rw [List.length_cons]; congr 1; omega
theorem ofT_skip {n : Int} : ∀ {l k : List Tb} {i : Nat}, (∀ t ∈ l, ¬ (t.below ≠ -1 ∧ 0 ≤ n - t.below - 1 ∧ n - t.below - 1 < t.rows.length)) → ofT n i (l ++ k) = ofT n (i + l.length) k
  | [], k, i, _ => rfl
  | t :: l, k, i, h => by
    rw [List.cons_append, ofT, if_neg (h t (by simp)), ofT_skip fun q hq => h q (by simp [hq])]
    rw [List.length_cons]; congr 1; omega

theorem range_split {α : Type} (f : Nat → α) {i n : Nat} (h : i < n) : (List.range n).map f = (List.range i).map f ++ f i :: ((List.range (n - i - 1)).map fun j => f (i + 1 + j)) := by
  have e : n = i + (1 + (n - i - 1)) := by omega
  rw [e, List.range_add, List.map_append]
  congr 1
  have : i + (1 + (n - i - 1)) - i - 1 = n - i - 1 := by omega
  rw [this, List.range_add, List.map_append, List.map_append]
  simp [List.range_succ, Nat.add_assoc]

section
variable {m : Model} (hr : Right m)
include hr
theorem v_ok {i : Nat} (h : i < m.vars.length) : VarOk (vAt m i) := by
  have e : m.vars[i]? = some (vAt m i) := by simp [vAt, List.getD, h]
  exact VarOk.of (hr.var i _ e)
theorem w1_0 (i : Nat) : 0 ≤ w1 m i := by
  unfold w1
  by_cases h : i < m.vars.length
  · have := (v_ok hr h).le; omega
  · have : vAt m i = v0 := by simp [vAt, List.getD, List.getElem?_eq_none (Nat.le_of_not_lt h)]
    rw [this]; simp [v0]
theorem w1_63 (i : Nat) : w1 m i ≤ 63 := by
  unfold w1
  by_cases h : i < m.vars.length
  · have := (v_ok hr h).dom; omega
  · have : vAt m i = v0 := by simp [vAt, List.getD, List.getElem?_eq_none (Nat.le_of_not_lt h)]
    rw [this]; simp [v0]
theorem w2_0 (i : Nat) : 0 ≤ w2 m i := by
  unfold w2; have := w1_0 hr i; split <;> omega
theorem w2_64 (i : Nat) : w2 m i ≤ 64 := by
  unfold w2; have := w1_63 hr i; split <;> omega
omit hr in
theorem w3_0 (i : Nat) : 0 ≤ w3 m i := by unfold w3; split <;> omega
theorem w3_64 (i : Nat) : w3 m i ≤ 64 := by
  unfold w3
  split
  · next h8 =>
    by_cases h : i < m.cons.length
    · have hm : cAt m i ∈ m.cons := by simp only [cAt, List.getD, List.getElem?_eq_getElem h, Option.getD_some]; exact List.getElem_mem h
      have hc := hr.con _ hm
      unfold conB at hc
      rw [h8] at hc
      have := (ConOk.of (n := ⟨false, true, false, true, false, false, false, false, false⟩) hc).rowsN
      omega
    · have : cAt m i = c0 := by simp [cAt, List.getD, List.getElem?_eq_none (Nat.le_of_not_lt h)]
      rw [this] at h8; simp [c0] at h8
  · omega
theorem An_le : An m ≤ 2016 := by
  have h1 := psum_le (w1_63 hr) m.vars.length; have h2 := hr.nv
  unfold An; omega
theorem Bn_le : Bn m ≤ 4064 := by
  have h1 := psum_le (w2_64 hr) m.vars.length; have h2 := hr.nv; have := An_le hr
  unfold Bn; omega
theorem Nn_le : Nn m ≤ 8160 := by
  have h1 := psum_le (w3_64 hr) m.cons.length; have h2 := hr.nc; have := Bn_le hr
  unfold Nn; omega
theorem A_0 : 0 ≤ An m := psum_mono (w1_0 hr) (Nat.zero_le _)
theorem A_B : An m ≤ Bn m := by have : 0 ≤ psum (w2 m) m.vars.length := psum_mono (w2_0 hr) (Nat.zero_le _); unfold Bn; omega
theorem B_N : Bn m ≤ Nn m := by have : 0 ≤ psum (w3 m) m.cons.length := psum_mono w3_0 (Nat.zero_le _); unfold Nn; omega
theorem s_lt {i : Nat} : 0 ≤ sO m i := psum_mono (w1_0 hr) (Nat.zero_le _)
theorem s_A {i : Nat} (h : i < m.vars.length) : sO m i + w1 m i ≤ An m := psum_step (w1_0 hr) h
theorem s_s {i j : Nat} (h : i < j) : sO m i + w1 m i ≤ sO m j := psum_step (w1_0 hr) h
theorem k_A {i : Nat} : An m ≤ kO m i := by have : 0 ≤ psum (w2 m) i := psum_mono (w2_0 hr) (Nat.zero_le _); unfold kO; omega
theorem k_B {i : Nat} (h : i < m.vars.length) : kO m i + w2 m i ≤ Bn m := by have := psum_step (w2_0 hr) h; unfold kO Bn; omega
theorem k_k {i j : Nat} (h : i < j) : kO m i + w2 m i ≤ kO m j := by have := psum_step (w2_0 hr) h; unfold kO; omega
omit hr in
theorem t_B {i : Nat} : Bn m ≤ tO m i := by have : 0 ≤ psum (w3 m) i := psum_mono w3_0 (Nat.zero_le _); unfold tO; omega
omit hr in
theorem t_N {i : Nat} (h : i < m.cons.length) : tO m i + w3 m i ≤ Nn m := by have := psum_step (f := w3 m) w3_0 h; unfold tO Nn; omega
omit hr in
theorem t_t {i j : Nat} (h : i < j) : tO m i + w3 m i ≤ tO m j := by have := psum_step (f := w3 m) w3_0 h; unfold tO; omega

/-- Not a number of a variable's steps. -/
theorem no_step {i : Nat} {n : Int} (h : n ≤ sO m i ∨ sO m i + w1 m i < n) : ¬ ((spanVal (plO m i).st ((plO m i).lo + 1) (plO m i).hi n).2 = true ∧ (plO m i).lo < (plO m i).hi) := by
  rintro ⟨h1, h2⟩
  have hl : (vAt m i).lo < (vAt m i).hi := h2
  have e : (plO m i).st = sO m i + 1 := if_pos hl
  have e2 : (plO m i).lo = (vAt m i).lo := rfl
  have e3 : (plO m i).hi = (vAt m i).hi := rfl
  unfold w1 at h
  simp only [spanVal, e, e2, e3, Bool.and_eq_true, decide_eq_true_eq] at h1
  omega
theorem no_kind {i : Nat} {n : Int} (h : n ≤ kO m i ∨ kO m i + w2 m i < n) : ¬ (spanVal (plO m i).kd (plO m i).lo (plO m i).hi n).2 = true := by
  intro h1
  have e2 : (plO m i).lo = (vAt m i).lo := rfl
  have e3 : (plO m i).hi = (vAt m i).hi := rfl
  unfold w2 w1 at h
  by_cases hc : chosen m i = true
  · have e : (plO m i).kd = kO m i + 1 := by simp only [plO, hc, if_pos]
    simp only [spanVal, e, e2, e3, Bool.and_eq_true, decide_eq_true_eq] at h1
    rw [if_pos hc] at h
    omega
  · have e : (plO m i).kd = 0 := by simp only [plO]; rw [if_neg hc]
    simp [spanVal, e] at h1
theorem pre_no {i : Nat} (hi : i ≤ m.vars.length) {n : Int} (h : ∀ j, j < i → sO m j + w1 m j < n ∧ (n ≤ kO m j ∨ kO m j + w2 m j < n)) :
    ∀ p ∈ (List.range i).map (plO m), ¬ ((spanVal p.st (p.lo + 1) p.hi n).2 = true ∧ p.lo < p.hi) ∧ ¬ (spanVal p.kd p.lo p.hi n).2 = true := by
  intro p hp
  obtain ⟨j, hj, rfl⟩ := List.mem_map.1 hp
  obtain ⟨h1, h2⟩ := h j (List.mem_range.1 hj)
  exact ⟨no_step hr (.inr h1), no_kind hr h2⟩
theorem of_step {i : Nat} (hi : i < m.vars.length) {k : Int} (h1 : (vAt m i).lo < k) (h2 : k ≤ (vAt m i).hi) : ofO (orderOf m) (sO m i + (k - (vAt m i).lo)) = some ⟨i, k, false, 0, 0, false⟩ := by
  have hw : w1 m i = (vAt m i).hi - (vAt m i).lo := rfl
  have hA := s_A hr hi
  unfold ofO orderOf
  rw [range_split (plO m) hi, ofP_skip (pre_no hr (Nat.le_of_lt hi) fun j hj => by
    have h3 := s_s hr hj; have h4 := k_A hr (i := j)
    exact ⟨by omega, .inl (by omega)⟩)]
  have hl : (vAt m i).lo < (vAt m i).hi := by omega
  have e : (plO m i).st = sO m i + 1 := if_pos hl
  have e2 : (plO m i).lo = (vAt m i).lo := rfl
  have e3 : (plO m i).hi = (vAt m i).hi := rfl
  have hs0 := s_lt hr (i := i)
  rw [ofP, if_pos ⟨by simp only [spanVal, e, e2, e3, Bool.and_eq_true, decide_eq_true_eq]; omega, by rw [e2, e3]; exact hl⟩]
  simp only [Option.some_or, List.length_map, List.length_range, Nat.zero_add, spanVal, e, e2]
  congr 2; omega
theorem of_kind {i : Nat} (hi : i < m.vars.length) (hc : chosen m i = true) {v : Int} (h1 : (vAt m i).lo ≤ v) (h2 : v ≤ (vAt m i).hi) : ofO (orderOf m) (kO m i + (v - (vAt m i).lo) + 1) = some ⟨i, v, true, 0, 0, false⟩ := by
  have hw : w1 m i = (vAt m i).hi - (vAt m i).lo := rfl
  have hA := s_A hr hi
  have hkA := k_A hr (i := i)
  have h0 := A_0 hr
  unfold ofO orderOf
  rw [range_split (plO m) hi, ofP_skip (pre_no hr (Nat.le_of_lt hi) fun j hj => by
    have h3 := s_A hr (Nat.lt_trans hj hi); have h4 := k_k hr hj
    exact ⟨by omega, .inr (by omega)⟩)]
  have e : (plO m i).kd = kO m i + 1 := by simp only [plO, hc, if_pos]
  have e2 : (plO m i).lo = (vAt m i).lo := rfl
  have e3 : (plO m i).hi = (vAt m i).hi := rfl
  rw [ofP, if_neg (no_step hr (.inr (by omega))), if_pos (by simp only [spanVal, e, e2, e3, Bool.and_eq_true, decide_eq_true_eq]; omega)]
  simp only [Option.some_or, List.length_map, List.length_range, Nat.zero_add, spanVal, e, e2]
  congr 2; omega
theorem of_pick {i : Nat} (hi : i < m.cons.length) (hk : (cAt m i).kind = 8) {r : Nat} (h : r < (cAt m i).rows.length) : ofO (orderOf m) (tO m i + r + 1) = some ⟨0, 0, false, i, r, true⟩ := by
  have hw : w3 m i = (cAt m i).rows.length := if_pos hk
  have hB := t_B (m := m) (i := i)
  have hAB := A_B hr
  have h0 := A_0 hr
  unfold ofO orderOf
  rw [ofP_none (pre_no hr (Nat.le_refl _) fun j hj => by
    have h3 := s_A hr hj; have h4 := k_B hr hj
    exact ⟨by omega, .inr (by omega)⟩)]
  simp only [Option.none_or]
  rw [range_split (tbO m) hi, ofT_skip fun t ht => by
    obtain ⟨j, hj, rfl⟩ := List.mem_map.1 ht
    have h3 := t_t (m := m) (List.mem_range.1 hj)
    unfold tbO
    by_cases h8 : (cAt m j).kind = 8
    · rw [if_pos h8]
      have : w3 m j = (cAt m j).rows.length := if_pos h8
      simp only
      omega
    · rw [if_neg h8]; simp]
  have e : tbO m i = ⟨tO m i, (cAt m i).xs, (cAt m i).rows⟩ := if_pos hk
  rw [ofT, e, if_pos ⟨by simp only; omega, by simp only; omega, by simp only; omega⟩]
  simp only [List.length_map, List.length_range, Nat.zero_add]
  congr 2; omega
end
end Go.Abs.G

/- More calls as steps. -/
namespace Go.Abs
set_option linter.unusedVariables false
section
variable {P : Program} {k : St → Prop} {st : St} {d : Option Nat} {ap : List Nat} {f : FuncId} {xs : List Operand}
end
end Go.Abs

/- A nil slice in a slot, as a slice of one's own without elements. -/
namespace Go.Abs
set_option linter.unusedVariables false
theorem Weak.ownnil (t es : Nat) {st : St} (ht : gt st.sl t = .a (.slice none 0 0)) : Weak st { st with sl := up st.sl t (.own st.hp.length es 0 0 0), hp := st.hp ++ [.mem false [] []] } := by
  refine ⟨rfl, fun k hk => ?_, by simp, fun w β F N a hR => ?_⟩
  · show (st.hp ++ _)[k]? = _
    rw [List.getElem?_append_left (lt_of_get hk)]; exact hk
  · have a1 := adv_res (F := F) hR.hok 1
    have hg : (st.hp ++ List.replicate 1 O.res)[st.hp.length]? = some O.res := by simp
    have a2 := new_nil (es := es) (refs := []) (F := F) a1.hok hg
    have e : (st.hp ++ List.replicate 1 O.res).set st.hp.length (.mem false [] []) = st.hp ++ [.mem false [] []] := by
      rw [List.set_append, if_neg (by omega), Nat.sub_self]; rfl
    have a3 := nil_own (es := es) (refs := []) (ad := none) (hp := w.heap) (F := F) (β := β) hg
    rw [e] at a2 a3
    have adv := a1.trans a2
    refine ⟨_, adv, ?_⟩
    have hR2 : Rel w _ F N { st with hp := st.hp ++ [.mem false [] []] } a := hR.adv adv
    have hx := hR.sl t
    rw [ht] at hx
    refine hR2.slot ?_
    rw [hx.of_a]; exact a3
end Go.Abs

/- A nil slice in a cell, as a slice of one's own without elements. -/
namespace Go.Abs
set_option linter.unusedVariables false
theorem Weak.nilc (id i j es : Nat) {st : St} {refs : List Nat} {rows : List (List V)} {row : List V} (hid : st.hp[id]? = some (.mem false refs rows)) (hrow : rows[i]? = some row) (hx : row[j]? = some (.a (.slice none 0 0)))
    (hrefs : ∀ (i' : Nat) (row' : List V), rows[i']? = some row' → ∀ (j' : Nat) (y : V), row'[j']? = some y → ∀ k ∈ y.ids, k ∈ refs) :
    Weak st { st with hp := st.hp.set id (.mem false (refs ++ [st.hp.length]) (rows.set i (row.set j (.own st.hp.length es 0 0 0)))) ++ [.mem false [] []] } := by
  have hlt := lt_of_get hid
  refine ⟨rfl, fun k hk => ?_, by simp, fun w β F N a hR => ?_⟩
  · show (st.hp.set id _ ++ _)[k]? = _
    have hne : k ≠ id := by rintro rfl; rw [hid] at hk; simp at hk
    rw [List.getElem?_append_left (by rw [List.length_set]; exact lt_of_get hk), getElem?_set_ne' hne]; exact hk
  · have a1 := adv_res (F := F) hR.hok 1
    have hg : (st.hp ++ List.replicate 1 O.res)[st.hp.length]? = some O.res := by simp
    have a2 := new_nil (es := es) (refs := []) (F := F) a1.hok hg
    have e : (st.hp ++ List.replicate 1 O.res).set st.hp.length (.mem false [] []) = st.hp ++ [.mem false [] []] := by
      rw [List.set_append, if_neg (by omega), Nat.sub_self]; rfl
    have a3 : ∀ ad : Option Addr, RV (cx w.heap (st.hp ++ [.mem false [] []]) (upd β st.hp.length ⟨0, 0, 0, es, 0, true, 0, noSub⟩) F) (.slice ad 0 0) (.own st.hp.length es 0 0 0) := fun ad => by
      have := nil_own (es := es) (refs := []) (ad := ad) (hp := w.heap) (F := F) (β := β) hg
      rw [e] at this; exact this
    rw [e] at a2
    have adv := a1.trans a2
    have hid' : (st.hp ++ [O.mem false [] []])[id]? = some (.mem false refs rows) := by
      rw [List.getElem?_append_left hlt]; exact hid
    have only : ∀ {v : Value} {y : V}, RV ((cx w.heap (st.hp ++ [.mem false [] []]) (upd β st.hp.length ⟨0, 0, 0, es, 0, true, 0, noSub⟩) F).only refs) v y → (∀ k ∈ y.ids, k ∈ refs ++ [st.hp.length]) → RV ((cx w.heap (st.hp ++ [.mem false [] []]) (upd β st.hp.length ⟨0, 0, 0, es, 0, true, 0, noSub⟩) F).only (refs ++ [st.hp.length])) v y := fun hv h =>
      (hv.onlyOf (refs ++ [st.hp.length]) h).mono ⟨Nat.le_refl _, fun _ _ hn => ⟨rfl, hn⟩, fun k hl => ⟨hl.1, hl.2.2⟩, fun _ _ _ e => .inl e⟩
    have a4 := adv_cells (refs' := refs ++ [st.hp.length]) (rows' := rows.set i (row.set j (.own st.hp.length es 0 0 0))) adv.hok hid' (by simp) (fun i' row' hi' => by
      by_cases e : i = i'
      · subst e
        rw [List.getElem?_set_self (lt_of_get hrow)] at hi'
        injection hi' with hi'
        subst hi'
        refine ⟨row, hrow, by simp, fun j' x' hj' => ?_⟩
        by_cases ej : j = j'
        · subst ej
          rw [List.getElem?_set_self (lt_of_get hx)] at hj'
          injection hj' with hj'
          subst hj'
          refine ⟨_, hx, fun v hv => ?_⟩
          rw [hv.of_a]
          exact (a3 none).onlyOf _ (by simp [V.ids])
        · rw [List.getElem?_set_ne ej] at hj'
          exact ⟨x', hj', fun v hv => only hv fun k hk => List.mem_append_left _ (hrefs i row hrow j' x' hj' k hk)⟩
      · rw [List.getElem?_set_ne e] at hi'
        exact ⟨row', hi', rfl, fun j' x' hj' => ⟨x', hj', fun v hv => only hv fun k hk => List.mem_append_left _ (hrefs i' row' hi' j' x' hj' k hk)⟩⟩)
    have hset : (st.hp ++ [O.mem false [] []]).set id (.mem false (refs ++ [st.hp.length]) (rows.set i (row.set j (.own st.hp.length es 0 0 0)))) = st.hp.set id (.mem false (refs ++ [st.hp.length]) (rows.set i (row.set j (.own st.hp.length es 0 0 0)))) ++ [.mem false [] []] := by
      rw [List.set_append, if_pos hlt]
    rw [hset] at a4
    have a5 := adv.trans a4
    exact ⟨_, a5, hR.adv a5⟩
end Go.Abs

namespace Go.Abs.G
open Go.Proofs
set_option linter.unusedVariables false
set_option linter.unusedSimpArgs false

def Pl.cells (p : Pl) : List V := [V.i p.lo, V.i p.hi, V.i p.st, V.i p.kd]
def Tb.cells (t : Tb) : List V := [V.i t.below, vInts t.xs, vIntss t.rows]
def Od.cells (o : Od) : List V := [.view 4 (o.ps.map Pl.cells), .view 3 (o.ts.map Tb.cells), V.i o.n]
def vOd (o : Od) : V := .ref o.cells 0
structure PlB (p : Pl) : Prop where
  lo : -1000000000 ≤ p.lo ∧ p.lo ≤ 1000000000
  hi : -1000000000 ≤ p.hi ∧ p.hi ≤ 1000000000
  st : 0 ≤ p.st ∧ p.st ≤ 1000000000
  kd : 0 ≤ p.kd ∧ p.kd ≤ 1000000000
structure TbB (t : Tb) : Prop where
  below : -1 ≤ t.below ∧ t.below ≤ 1000000000
  rows : t.rows.length ≤ 1000000
  xs : t.xs.length ≤ 1000000
structure OdB (o : Od) : Prop where
  ps : ∀ p ∈ o.ps, PlB p
  psn : o.ps.length ≤ 1000000
  ts : ∀ t ∈ o.ts, TbB t
  tsn : o.ts.length ≤ 1000000
  n : 0 ≤ o.n ∧ o.n ≤ 1000000000
def W10 (n : Int) : Prop := -10000000000 ≤ n ∧ n ≤ 10000000000
theorem PlB.zero : PlB ⟨0, 0, 0, 0⟩ := ⟨by decide, by decide, by decide, by decide⟩
theorem OdB.at' {o : Od} (h : OdB o) (x : Int) : PlB (atO o x) := by
  unfold atO
  split
  · next hx =>
    simp [isO] at hx
    have : x.toNat < o.ps.length := by omega
    simp only [List.getD, List.getElem?_eq_getElem this, Option.getD_some]
    exact h.ps _ (List.getElem_mem this)
  · exact .zero

theorem number6_spec (f l m v : Int) (hf : W10 f) (hl : W10 l) (hm : W10 m) (hv : W10 v) : Pf Try.prog order_span_number.id [.agg [V.i f, V.i l, V.i m], V.i v] (V.i (spanNum f l m v)) := by
  unfold W10 at *
  refine DC.of order_span_number.ok (by simp) ?_
  unfold order_span_number.ir
  have w1 : IntKind.i64.wrap (f + v) = f + v := wrap64 (by omega) (by omega)
  have w2 : IntKind.i64.wrap (f + v - l) = f + v - l := wrap64 (by omega) (by omega)
  by_cases h1 : f = 0
  · simp -dsimp [h1, order_span_number.rs, spanNum]
  · by_cases h2 : v < l
    · simp -dsimp [h1, h2, order_span_number.rs, spanNum]
    · by_cases h3 : m < v
      · simp -dsimp [h1, h2, h3, order_span_number.rs, spanNum]
      · simp -dsimp [h1, h2, h3, order_span_number.rs, spanNum, w1, w2]
theorem value6_spec (f l m n : Int) (hf : W10 f) (hl : W10 l) (hm : W10 m) (hn : W10 n) : Pf Try.prog order_span_value.id [.agg [V.i f, V.i l, V.i m], V.i n] (.tup [V.i (spanVal f l m n).1, .bool (spanVal f l m n).2]) := by
  unfold W10 at *
  refine DC.of order_span_value.ok (by simp) ?_
  unfold order_span_value.ir
  have w1 : IntKind.i64.wrap (l + n) = l + n := wrap64 (by omega) (by omega)
  have w2 : IntKind.i64.wrap (l + n - f) = l + n - f := wrap64 (by omega) (by omega)
  have w3 : IntKind.i64.wrap (f + m) = f + m := wrap64 (by omega) (by omega)
  have w4 : IntKind.i64.wrap (f + m - l) = f + m - l := wrap64 (by omega) (by omega)
  by_cases h1 : 0 < f
  · by_cases h2 : f ≤ n
    · simp -dsimp [h1, h2, order_span_value.rs, spanVal, w1, w2, w3, w4]
    · simp -dsimp [h1, h2, order_span_value.rs, spanVal, w1, w2, w3, w4]
  · simp -dsimp [h1, order_span_value.rs, spanVal, w1, w2, w3, w4]
theorem steps6_spec (p : Pl) (h : PlB p) : Pf Try.prog order_place_steps.id [.agg p.cells] (.agg [V.i p.st, V.i (p.lo + 1), V.i p.hi]) := by
  refine DC.of order_place_steps.ok (by simp) ?_
  unfold order_place_steps.ir
  have := h.lo
  have w1 : IntKind.i64.wrap (p.lo + 1) = p.lo + 1 := wrap64 (by omega) (by omega)
  simp -dsimp [Pl.cells, w1, order_place_steps.rs]
theorem kinds6_spec (p : Pl) : Pf Try.prog order_place_kinds.id [.agg p.cells] (.agg [V.i p.kd, V.i p.lo, V.i p.hi]) := by
  refine DC.of order_place_kinds.ok (by simp) ?_
  unfold order_place_kinds.ir
  simp -dsimp [Pl.cells, order_place_kinds.rs]
theorem isO_spec (o : Od) (x : Int) : Pf Try.prog order_Order_is.id [vOd o, V.i x] (.bool (isO o x)) := by
  refine DC.of order_Order_is.ok (by simp) ?_
  unfold order_Order_is.ir
  by_cases h1 : 0 ≤ x <;> by_cases h2 : x < o.ps.length <;> simp -dsimp [vOd, Od.cells, h1, h2, isO, order_Order_is.rs]
theorem countO_spec (o : Od) : Pf Try.prog order_Order_Count.id [vOd o] (V.i o.n) := by
  refine DC.of order_Order_Count.ok (by simp) ?_
  unfold order_Order_Count.ir
  simp -dsimp [vOd, Od.cells, order_Order_Count.rs]
theorem atO_spec (o : Od) (x : Int) : Pf Try.prog order_Order_at.id [vOd o, V.i x] (.agg (atO o x).cells) := by
  refine DC.of order_Order_at.ok (by simp) ?_
  unfold order_Order_at.ir
  by_cases h1 : x < 0
  · have h1' : ¬ 0 ≤ x := by omega
    simp -dsimp [vOd, Od.cells, h1, h1', atO, isO, order_Order_at.rs, Pl.cells]
  · by_cases h2 : x < o.ps.length
    · obtain ⟨p, rfl⟩ := Int.eq_ofNat_of_zero_le (by omega : 0 ≤ x)
      have h3 : p < o.ps.length := by omega
      have h4 : ¬ (o.ps.length : Int) ≤ p := by omega
      simp -dsimp [vOd, Od.cells, h1, h2, h3, h4, atO, isO, order_Order_at.rs, Pl.cells]
    · have h4 : (o.ps.length : Int) ≤ x := by omega
      simp -dsimp [vOd, Od.cells, h1, h2, h4, atO, isO, order_Order_at.rs, Pl.cells]
theorem least6_spec (o : Od) (h : OdB o) (x k : Int) (hk : W10 k) : Pf Try.prog order_Order_AtLeast.id [vOd o, V.i x, V.i k] (.tup [V.i (leastO o x k).1, V.i (leastO o x k).2]) := by
  refine DC.of order_Order_AtLeast.ok (by simp) ?_
  unfold order_Order_AtLeast.ir
  obtain ⟨p, hp⟩ : ∃ p, p = atO o x := ⟨_, rfl⟩
  have hpb : PlB p := by rw [hp]; exact h.at' x
  have c1 := atO_spec o x
  have c2 := isO_spec o x
  have c3 := steps6_spec p hpb
  have b1 := hpb.lo; have b2 := hpb.hi; have b3 := hpb.st
  have c4 := number6_spec p.st (p.lo + 1) p.hi k (by unfold W10; omega) (by unfold W10; omega) (by unfold W10; omega) hk
  unfold leastO
  rw [← hp] at c1 ⊢
  obtain ⟨A, hA⟩ : ∃ A, A = vOd o := ⟨_, rfl⟩
  rw [← hA] at c1 c2 ⊢
  have hAi : A.ids = [] := by rw [hA]; simp [vOd, V.ids]
  simp only [Pl.cells] at c1 c3
  refine vc_cut (At [(0, A), (1, V.i x), (2, V.i k)] []) (by simp -dsimp [At]) ?_
  try clear h
  rintro ⟨sl, hp, bs⟩ ⟨rfl, h⟩
  simp only [sls_cons, sls_one, sls_nil] at h
  refine vc_cut (At [(0, A), (1, V.i x), (2, V.i k), (8, .ptr 0 1 0 0)] [.mem false [] [p.cells]]) (by simp -dsimp [h]; refine gcall c1 (by simp -dsimp [h]) (by simp [hAi]) ?_; simp -dsimp [h, At, Pl.cells]) ?_
  try clear h
  rintro ⟨sl, hp, bs⟩ ⟨rfl, h⟩
  simp only [sls_cons, sls_one, sls_nil] at h
  refine vc_cut (fun st => isO o x = true ∧ p.lo < k ∧ k ≤ p.hi ∧ At [(2, V.i k), (8, .ptr 0 1 0 0)] [.mem false [] [p.cells]] st) ?_ ?_
  · refine vc_block_of ?_
    cases hx : isO o x
    · rw [hx] at c2
      simp -dsimp [h]
      refine gcall c2 (by simp -dsimp [h]) (by simp [hAi]) ?_
      simp -dsimp [h, order_Order_AtLeast.rs]
    · rw [hx] at c2
      by_cases h1 : k ≤ p.lo
      · simp -dsimp [h]
        refine gcall c2 (by simp -dsimp [h]) (by simp [hAi]) ?_
        simp -dsimp [h, Pl.cells, h1, order_Order_AtLeast.rs]
      · by_cases h2 : p.hi < k
        · simp -dsimp [h]
          refine gcall c2 (by simp -dsimp [h]) (by simp [hAi]) ?_
          simp -dsimp [h, Pl.cells, h1, h2, order_Order_AtLeast.rs]
        · simp -dsimp [h]
          refine gcall c2 (by simp -dsimp [h]) (by simp [hAi]) ?_
          simp -dsimp [h, Pl.cells, h1, h2, At]
          omega
  rintro ⟨sl, hp', bs⟩ ⟨hx, h1, h2, rfl, h⟩; simp only [sls_cons, sls_one] at h
  have h1' : ¬ k ≤ p.lo := by omega
  have h2' : ¬ p.hi < k := by omega
  simp -dsimp [h, Pl.cells]
  refine gcall (c3) (by simp -dsimp [h]) (by simp -dsimp [h]) ?_
  simp -dsimp [h]
  refine gcall (c4) (by simp -dsimp [h, order_Order_AtLeast.rs, hx, h1', h2']) (by simp -dsimp [h, order_Order_AtLeast.rs, hx, h1', h2']) ?_
  simp -dsimp [h, order_Order_AtLeast.rs, hx, h1', h2']

theorem kind6_spec (o : Od) (h : OdB o) (x v : Int) (hv : W10 v) : Pf Try.prog order_Order_Is.id [vOd o, V.i x, V.i v] (.tup [V.i (kindO o x v).1, V.i (kindO o x v).2]) := by
  refine DC.of order_Order_Is.ok (by simp) ?_
  unfold order_Order_Is.ir
  obtain ⟨p, hp⟩ : ∃ p, p = atO o x := ⟨_, rfl⟩
  have hpb : PlB p := by rw [hp]; exact h.at' x
  have c1 := atO_spec o x
  have c3 := kinds6_spec p
  have b1 := hpb.lo; have b2 := hpb.hi; have b3 := hpb.kd
  have c4 := number6_spec p.kd p.lo p.hi v (by unfold W10; omega) (by unfold W10; omega) (by unfold W10; omega) hv
  unfold kindO
  rw [← hp] at c1 ⊢
  obtain ⟨A, hA⟩ : ∃ A, A = vOd o := ⟨_, rfl⟩
  rw [← hA] at c1 ⊢
  have hAi : A.ids = [] := by rw [hA]; simp [vOd, V.ids]
  simp only [Pl.cells] at c1 c3
  refine vc_cut (At [(0, A), (1, V.i x), (2, V.i v)] []) (by simp -dsimp [At]) ?_
  try clear h
  rintro ⟨sl, hp, bs⟩ ⟨rfl, h⟩
  simp only [sls_cons, sls_one, sls_nil] at h
  refine vc_cut (At [(2, V.i v), (8, .ptr 0 1 0 0)] [.mem false [] [p.cells]]) (by simp -dsimp [h]; refine gcall c1 (by simp -dsimp [h]) (by simp [hAi]) ?_; simp -dsimp [h, At, Pl.cells]) ?_
  try clear h
  rintro ⟨sl, hp, bs⟩ ⟨rfl, h⟩
  simp only [sls_cons, sls_one, sls_nil] at h
  by_cases h0 : p.kd = 0
  · simp -dsimp [h, Pl.cells, h0, order_Order_Is.rs]
  obtain ⟨n, hn⟩ : ∃ n, n = spanNum p.kd p.lo p.hi v := ⟨_, rfl⟩
  rw [← hn] at c4 ⊢
  refine vc_cut (At [(2, V.i v), (8, .ptr 0 1 0 0)] [.mem false [] [p.cells]]) (by simp -dsimp [h, Pl.cells, h0, At]) ?_
  try clear h
  rintro ⟨sl, hp, bs⟩ ⟨rfl, h⟩
  simp only [sls_cons, sls_one, sls_nil] at h
  by_cases h1 : 0 < n
  · simp -dsimp [h, Pl.cells]
    refine gcall (c3) (by simp -dsimp [h]) (by simp -dsimp [h]) ?_
    simp -dsimp [h]
    refine gcall (c4) (by simp -dsimp [h, order_Order_Is.rs, h0, h1]) (by simp -dsimp [h, order_Order_Is.rs, h0, h1]) ?_
    simp -dsimp [h, order_Order_Is.rs, h0, h1]
  · simp -dsimp [h, Pl.cells]
    refine gcall (c3) (by simp -dsimp [h]) (by simp -dsimp [h]) ?_
    simp -dsimp [h]
    refine gcall (c4) (by simp -dsimp [h, order_Order_Is.rs, h0, h1]) (by simp -dsimp [h, order_Order_Is.rs, h0, h1]) ?_
    simp -dsimp [h, order_Order_Is.rs, h0, h1]

theorem pick6_spec (o : Od) (h : OdB o) (c r : Int) : Pf Try.prog order_Order_Pick.id [vOd o, V.i c, V.i r] (.tup [V.i (pickO o c r).1, V.i (pickO o c r).2]) := by
  refine DC.of order_Order_Pick.ok (by simp) ?_
  unfold order_Order_Pick.ir
  unfold pickO
  by_cases h1 : c < 0
  · simp -dsimp [vOd, Od.cells, h1, order_Order_Pick.rs]
  · by_cases h2 : (o.ts.length : Int) ≤ c
    · simp -dsimp [vOd, Od.cells, h1, h2, order_Order_Pick.rs]
    · obtain ⟨q, rfl⟩ := Int.eq_ofNat_of_zero_le (by omega : 0 ≤ c)
      have hq : q < o.ts.length := by omega
      have hq' : (q : Int) < o.ts.length := by omega
      obtain ⟨t, ht⟩ : ∃ t, t = o.ts[q] := ⟨_, rfl⟩
      have htb : TbB t := by rw [ht]; exact h.ts _ (List.getElem_mem hq)
      have hgd : ∀ d, o.ts.getD q d = t := fun d => by simp [List.getD, hq, ht]
      by_cases h3 : r < 0
      · simp -dsimp [vOd, Od.cells, h1, h2, h3, order_Order_Pick.rs]
      · by_cases h4 : (t.rows.length : Int) ≤ r
        · simp -dsimp [vOd, Od.cells, h1, h2, h3, h4, hq, hq', ← ht, Tb.cells, vIntss, order_Order_Pick.rs, hgd]
        · have b1 := htb.below; have b2 := htb.rows
          have w1 : IntKind.i64.wrap (t.below + r) = t.below + r := wrap64 (by omega) (by omega)
          have w2 : IntKind.i64.wrap (t.below + r + 1) = t.below + r + 1 := wrap64 (by omega) (by omega)
          simp -dsimp [vOd, Od.cells, h1, h2, h3, h4, hq, hq', ← ht, Tb.cells, vIntss, order_Order_Pick.rs, hgd, w1, w2]
end Go.Abs.G

namespace Go.Abs.G
open Go.Proofs
set_option linter.unusedVariables false
set_option linter.unusedSimpArgs false

def Mean.cells (t : Mean) : List V := [V.i t.x, V.i t.v, .bool t.is, V.i t.con, V.i t.row, .bool t.pick]
def mean0 : Mean := ⟨0, 0, false, 0, 0, false⟩
def vMean : Option Mean → V
  | some t => .tup [.agg t.cells, .bool true]
  | none => .tup [.agg mean0.cells, .bool false]
theorem ofP_drop {n : Int} {l : List Pl} {i : Nat} (h : i < l.length) : ofP n i (l.drop i) = if (spanVal l[i].st (l[i].lo + 1) l[i].hi n).2 = true ∧ l[i].lo < l[i].hi then some ⟨i, (spanVal l[i].st (l[i].lo + 1) l[i].hi n).1, false, 0, 0, false⟩
    else if (spanVal l[i].kd l[i].lo l[i].hi n).2 = true then some ⟨i, (spanVal l[i].kd l[i].lo l[i].hi n).1, true, 0, 0, false⟩ else ofP n (i + 1) (l.drop (i + 1)) := by
  rw [List.drop_eq_getElem_cons h]; rfl
theorem ofT_drop {n : Int} {l : List Tb} {i : Nat} (h : i < l.length) : ofT n i (l.drop i) = if l[i].below ≠ -1 ∧ 0 ≤ n - l[i].below - 1 ∧ n - l[i].below - 1 < l[i].rows.length then some ⟨0, 0, false, i, n - l[i].below - 1, true⟩ else ofT n (i + 1) (l.drop (i + 1)) := by
  rw [List.drop_eq_getElem_cons h]; rfl

theorem of6_spec (o : Od) (h : OdB o) (n : Int) (hn : W10 n) : Pf Try.prog order_Order_Of.id [vOd o, V.i n] (vMean (ofO o n)) := by
  have hpn := h.psn
  have htn := h.tsn
  have hps := h.ps
  have hts := h.ts
  clear h
  refine DC.of order_Order_Of.ok (by simp) ?_
  unfold order_Order_Of.ir
  obtain ⟨P, hP⟩ : ∃ P, P = V.view 4 (o.ps.map Pl.cells) := ⟨_, rfl⟩
  obtain ⟨T, hT⟩ : ∃ T, T = V.view 3 (o.ts.map Tb.cells) := ⟨_, rfl⟩
  have hPi : P.ids = [] := by rw [hP]; rfl
  have hTi : T.ids = [] := by rw [hT]; rfl
  have hO : vOd o = .ref [P, T, V.i o.n] 0 := by rw [hP, hT]; rfl
  rw [hO]
  obtain ⟨ps, hpe⟩ : ∃ ps, ps = o.ps := ⟨_, rfl⟩
  obtain ⟨ts, hte⟩ : ∃ ts, ts = o.ts := ⟨_, rfl⟩
  unfold ofO
  rw [← hpe] at hP hps hpn ⊢
  rw [← hte] at hT hts htn ⊢
  refine vc_cut (At [(0, .ref [P, T, V.i o.n] 0), (1, V.i n), (4, .ptr 0 1 0 0)] [.mem false [] [mean0.cells]]) (by simp -dsimp [At, mean0, Mean.cells]) ?_
  try clear h
  rintro ⟨sl, hp, bs⟩ ⟨rfl, h⟩
  simp only [sls_cons, sls_one, sls_nil] at h
  refine vc_cut (fun st => ofP n 0 ps = none ∧ At [(0, .ref [P, T, V.i o.n] 0), (1, V.i n), (4, .ptr 0 1 0 0)] [.mem false [] [mean0.cells]] st) ?_ ?_
  · refine vc_cut (At [(0, .ref [P, T, V.i o.n] 0), (1, V.i n), (4, .ptr 0 1 0 0), (18, P), (19, V.i ps.length), (20, V.i 0)] [.mem false [] [mean0.cells]]) (by simp -dsimp [At, h, hP]) ?_
    try clear h
    rintro ⟨sl, hp, bs⟩ ⟨rfl, h⟩
    simp only [sls_cons, sls_one, sls_nil] at h
    refine vc_block_of (vc_upto 1 (by simp) ps.length (fun i st => ofP n 0 ps = ofP n i (ps.drop i) ∧ At [(0, .ref [P, T, V.i o.n] 0), (1, V.i n), (4, .ptr 0 1 0 0), (18, P), (19, V.i ps.length), (20, V.i i)] [.mem false [] [mean0.cells]] st) ⟨rfl, rfl, by simpa using h⟩ ?_)
    clear h
    rintro i ⟨sl, hp, bs⟩ hi ⟨he, rfl, h⟩
    simp only [sls_cons, sls_one] at h
    unfold order_Order_Of.b0
    by_cases hil : i < ps.length
    · have hil' : (i : Int) < ps.length := by omega
      have hw : IntKind.i64.wrap ((i : Int) + 1) = ((i + 1 : Nat) : Int) := by rw [wrap64] <;> omega
      rw [ofP_drop hil] at he
      obtain ⟨p, hp'⟩ : ∃ p, p = ps[i] := ⟨_, rfl⟩
      have hpb : PlB p := by rw [hp']; exact hps _ (List.getElem_mem hil)
      rw [← hp'] at he
      have b1 := hpb.lo; have b2 := hpb.hi; have b3 := hpb.st; have b4 := hpb.kd
      have c1 := steps6_spec p hpb
      have c2 := value6_spec p.st (p.lo + 1) p.hi n (by unfold W10; omega) (by unfold W10; omega) (by unfold W10; omega) hn
      have c3 := kinds6_spec p
      have c4 := value6_spec p.kd p.lo p.hi n (by unfold W10; omega) (by unfold W10; omega) (by unfold W10; omega) hn
      obtain ⟨a, ha⟩ : ∃ a, a = (spanVal p.st (p.lo + 1) p.hi n).1 := ⟨_, rfl⟩
      obtain ⟨b, hb⟩ : ∃ b, b = (spanVal p.st (p.lo + 1) p.hi n).2 := ⟨_, rfl⟩
      obtain ⟨a', ha'⟩ : ∃ a, a = (spanVal p.kd p.lo p.hi n).1 := ⟨_, rfl⟩
      obtain ⟨b', hb'⟩ : ∃ b, b = (spanVal p.kd p.lo p.hi n).2 := ⟨_, rfl⟩
      rw [← ha, ← hb] at c2 he
      rw [← ha', ← hb'] at c4 he
      have hcl : p.cells = [V.i p.lo, V.i p.hi, V.i p.st, V.i p.kd] := rfl
      rw [hcl] at c1 c3
      have hm0 : mean0.cells = [V.i 0, V.i 0, .bool false, V.i 0, V.i 0, .bool false] := rfl
      refine vc_cut (At [(0, .ref [P, T, V.i o.n] 0), (1, V.i n), (4, .ptr 0 1 0 0), (18, P), (19, V.i ps.length), (20, V.i i), (21, .bool true)] [.mem false [] [mean0.cells]]) (by simp -dsimp [h, At, hil, hil']) ?_
      try clear h
      rintro ⟨sl, hp, bs⟩ ⟨rfl, h⟩
      simp only [sls_cons, sls_one, sls_nil] at h
      refine vc_cut (At [(0, .ref [P, T, V.i o.n] 0), (1, V.i n), (4, .ptr 0 1 0 0), (18, P), (19, V.i ps.length), (20, V.i i)] [.mem false [] [mean0.cells]]) (by simp -dsimp [h, At]) ?_
      try clear h
      rintro ⟨sl, hp, bs⟩ ⟨rfl, h⟩
      simp only [sls_cons, sls_one, sls_nil] at h
      refine vc_cut (fun st => ofP n 0 ps = ofP n (i + 1) (ps.drop (i + 1)) ∧ At [(0, .ref [P, T, V.i o.n] 0), (1, V.i n), (4, .ptr 0 1 0 0), (18, P), (19, V.i ps.length), (20, V.i i)] [.mem false [] [mean0.cells], .mem false [] [p.cells]] st) ?_ ?_
      · refine vc_block_of ?_
        refine vc_cut (At [(0, .ref [P, T, V.i o.n] 0), (1, V.i n), (4, .ptr 0 1 0 0), (6, V.i i), (7, .ptr 1 1 0 0), (18, P), (19, V.i ps.length), (20, V.i i)] [.mem false [] [mean0.cells], .mem false [] [p.cells]]) (by simp -dsimp [h, At, hP, hil, hil', ← hp', hcl]) ?_
        try clear h
        rintro ⟨sl, hp, bs⟩ ⟨rfl, h⟩
        simp only [sls_cons, sls_one, sls_nil] at h
        by_cases h1 : b = true ∧ p.lo < p.hi
        · obtain ⟨h1, h2⟩ := h1
          rw [if_pos ⟨h1, h2⟩] at he
          subst h1
          simp -dsimp [h, hcl]
          refine gcall (c1) (by simp -dsimp [h]) (by simp -dsimp [h]) ?_
          simp -dsimp [h]
          refine gcall (c2) (by simp -dsimp [h, h2, hcl, hm0, order_Order_Of.rs]) (by simp -dsimp [h, h2, hcl, hm0, order_Order_Of.rs]) ?_
          simp -dsimp [h, h2, hcl, hm0, order_Order_Of.rs]
          rw [he]
          simp [vMean, Mean.cells]
        · rw [if_neg h1] at he
          by_cases h3 : b' = true
          · rw [if_pos h3] at he
            subst h3
            cases b
            · simp -dsimp [h, hcl]
              refine gcall (c1) (by simp -dsimp [h]) (by simp -dsimp [h]) ?_
              simp -dsimp [h]
              refine gcall (c2) (by simp -dsimp [h, hcl]) (by simp -dsimp [h, hcl]) ?_
              simp -dsimp [h, hcl]
              refine gcall (c3) (by simp -dsimp [h]) (by simp -dsimp [h]) ?_
              simp -dsimp [h]
              refine gcall (c4) (by simp -dsimp [h, hcl, hm0, order_Order_Of.rs]) (by simp -dsimp [h, hcl, hm0, order_Order_Of.rs]) ?_
              simp -dsimp [h, hcl, hm0, order_Order_Of.rs]
              rw [he]; simp [vMean, Mean.cells]
            · have h2 : ¬ p.lo < p.hi := fun e => h1 ⟨rfl, e⟩
              simp -dsimp [h, hcl]
              refine gcall (c1) (by simp -dsimp [h]) (by simp -dsimp [h]) ?_
              simp -dsimp [h]
              refine gcall (c2) (by simp -dsimp [h, h2, hcl]) (by simp -dsimp [h, h2, hcl]) ?_
              simp -dsimp [h, h2, hcl]
              refine gcall (c3) (by simp -dsimp [h]) (by simp -dsimp [h]) ?_
              simp -dsimp [h]
              refine gcall (c4) (by simp -dsimp [h, hcl, hm0, order_Order_Of.rs]) (by simp -dsimp [h, hcl, hm0, order_Order_Of.rs]) ?_
              simp -dsimp [h, hcl, hm0, order_Order_Of.rs]
              rw [he]; simp [vMean, Mean.cells]
          · rw [if_neg h3] at he
            have h3 : b' = false := by simpa using h3
            subst h3
            cases b
            · simp -dsimp [h, hcl]
              refine gcall (c1) (by simp -dsimp [h]) (by simp -dsimp [h]) ?_
              simp -dsimp [h]
              refine gcall (c2) (by simp -dsimp [h, hcl]) (by simp -dsimp [h, hcl]) ?_
              simp -dsimp [h, hcl]
              refine gcall (c3) (by simp -dsimp [h]) (by simp -dsimp [h]) ?_
              simp -dsimp [h]
              refine gcall (c4) (by simp -dsimp [h, hcl, At]) (by simp -dsimp [h, hcl, At]) ?_
              simp -dsimp [h, hcl, At]
              exact he
            · have h2 : ¬ p.lo < p.hi := fun e => h1 ⟨rfl, e⟩
              simp -dsimp [h, hcl]
              refine gcall (c1) (by simp -dsimp [h]) (by simp -dsimp [h]) ?_
              simp -dsimp [h]
              refine gcall (c2) (by simp -dsimp [h, h2, hcl]) (by simp -dsimp [h, h2, hcl]) ?_
              simp -dsimp [h, h2, hcl]
              refine gcall (c3) (by simp -dsimp [h]) (by simp -dsimp [h]) ?_
              simp -dsimp [h]
              refine gcall (c4) (by simp -dsimp [h, hcl, At]) (by simp -dsimp [h, hcl, At]) ?_
              simp -dsimp [h, hcl, At]
              exact he
      try clear h
      rintro ⟨sl, hp, bs⟩ ⟨he2, rfl, h⟩
      simp only [sls_cons, sls_one, sls_nil] at h
      simp -dsimp [h, At, hw, hil, hPi, hTi]
      exact he2
    · have hil' : ¬ (i : Int) < ps.length := by omega
      have e : ps.drop i = [] := List.drop_eq_nil_of_le (by omega)
      rw [e] at he
      simp -dsimp [h, hil', At]
      exact he
  try clear h
  rintro ⟨sl, hp, bs⟩ ⟨hpn0, rfl, h⟩
  simp only [sls_cons, sls_one, sls_nil] at h
  rw [hpn0]
  simp only [Option.none_or]
  have hm0 : mean0.cells = [V.i 0, V.i 0, .bool false, V.i 0, V.i 0, .bool false] := rfl
  refine vc_cut (fun st => ofT n 0 ts = none ∧ At [(4, .ptr 0 1 0 0)] [.mem false [] [mean0.cells]] st) ?_ ?_
  · refine vc_cut (At [(1, V.i n), (4, .ptr 0 1 0 0), (60, T), (61, V.i ts.length), (62, V.i 0)] [.mem false [] [mean0.cells]]) (by simp -dsimp [At, h, hT]) ?_
    try clear h
    rintro ⟨sl, hp, bs⟩ ⟨rfl, h⟩
    simp only [sls_cons, sls_one, sls_nil] at h
    refine vc_block_of (vc_upto 1 (by simp) ts.length (fun i st => ofT n 0 ts = ofT n i (ts.drop i) ∧ At [(1, V.i n), (4, .ptr 0 1 0 0), (60, T), (61, V.i ts.length), (62, V.i i)] [.mem false [] [mean0.cells]] st) ⟨rfl, rfl, by simpa using h⟩ ?_)
    clear h
    rintro i ⟨sl, hp, bs⟩ hi ⟨he, rfl, h⟩
    simp only [sls_cons, sls_one] at h
    unfold order_Order_Of.b1
    by_cases hil : i < ts.length
    · have hil' : (i : Int) < ts.length := by omega
      have hw : IntKind.i64.wrap ((i : Int) + 1) = ((i + 1 : Nat) : Int) := by rw [wrap64] <;> omega
      rw [ofT_drop hil] at he
      obtain ⟨t, ht'⟩ : ∃ t, t = ts[i] := ⟨_, rfl⟩
      have htb : TbB t := by rw [ht']; exact hts _ (List.getElem_mem hil)
      rw [← ht'] at he
      have b1 := htb.below; have b2 := htb.rows
      unfold W10 at hn
      have w1 : IntKind.i64.wrap (n - t.below) = n - t.below := wrap64 (by omega) (by omega)
      obtain ⟨r, hr⟩ : ∃ r, r = n - t.below - 1 := ⟨_, rfl⟩
      have w2 : IntKind.i64.wrap (n - t.below - 1) = r := by rw [hr]; exact wrap64 (by omega) (by omega)
      rw [← hr] at he
      have hcl : t.cells = [V.i t.below, vInts t.xs, vIntss t.rows] := rfl
      by_cases h1 : t.below = -1
      · rw [if_neg (by simp [h1])] at he
        simp -dsimp [h, hil, hil', hT, ← ht', hcl, w1, w2, h1, vInts, vIntss, At, hw]
        exact he
      · by_cases h2 : 0 ≤ r
        · by_cases h3 : r < t.rows.length
          · rw [if_pos ⟨h1, h2, h3⟩] at he
            simp -dsimp [h, hil, hil', hT, ← ht', hcl, w1, w2, h1, h2, h3, vInts, vIntss, hm0, order_Order_Of.rs]
            rw [he]; simp [vMean, Mean.cells]
          · rw [if_neg (by simp [h1, h2, h3])] at he
            simp -dsimp [h, hil, hil', hT, ← ht', hcl, w1, w2, h1, h2, h3, vInts, vIntss, At, hw]
            exact he
        · rw [if_neg (by simp [h1, h2])] at he
          simp -dsimp [h, hil, hil', hT, ← ht', hcl, w1, w2, h1, h2, vInts, vIntss, At, hw]
          exact he
    · have hil' : ¬ (i : Int) < ts.length := by omega
      have e : ts.drop i = [] := List.drop_eq_nil_of_le (by omega)
      rw [e] at he
      simp -dsimp [h, hil', At]
      exact he
  try clear h
  rintro ⟨sl, hp, bs⟩ ⟨htn0, rfl, h⟩
  simp only [sls_cons, sls_one, sls_nil] at h
  rw [htn0]
  simp -dsimp [h, hm0, order_Order_Of.rs, vMean]
end Go.Abs.G

namespace Go.Abs.G
open Go.Proofs
set_option linter.unusedVariables false
set_option linter.unusedSimpArgs false

def vBools (l : List Bool) : V := .view 1 (l.map fun b => [.bool b])
def rb (l : List Bool) : List (List V) := l.map fun b => [.bool b]
theorem rb_len (l : List Bool) : (rb l).length = l.length := by simp [rb]
theorem rb_set (l : List Bool) (i : Nat) (b : Bool) : (rb l).set i [.bool b] = rb (l.set i b) := by simp [rb, List.map_set]
theorem rb_get {l : List Bool} {i : Nat} (h : i < (rb l).length) : (rb l)[i] = [.bool (l[i]'(by rw [rb_len] at h; exact h))] := by simp [rb]
def vL (vs : List Int) (x : Int) : Int := vs.getD x.toNat 0
def holdsT (t : Tb) (r : Nat) (vs : List Int) : Bool := decide (t.xs.map (vL vs) = t.rows.getD r [])

theorem holdsT_spec (t : Tb) (r : Nat) (vs : List Int) (hr : r < t.rows.length) (hx : ∀ x ∈ t.xs, 0 ≤ x ∧ x < vs.length) (hl : (t.rows.getD r []).length = t.xs.length) (hn : t.xs.length ≤ 1000000) :
    Pf Try.prog order_table_holds.id [.agg t.cells, V.i r, vInts vs] (.bool (holdsT t r vs)) := by
  refine DC.of order_table_holds.ok (by simp) ?_
  unfold order_table_holds.ir
  obtain ⟨row, hrow⟩ : ∃ row, row = t.rows[r] := ⟨_, rfl⟩
  have hgd : t.rows.getD r [] = row := by simp [List.getD, hr, hrow]
  unfold holdsT
  rw [hgd] at hl ⊢
  have hcl : t.cells = [V.i t.below, vInts t.xs, vIntss t.rows] := rfl
  refine vc_cut (At [(1, V.i r), (2, vInts vs), (3, .ptr 0 1 0 0)] [.mem false [] [t.cells]]) (by simp -dsimp [At, hcl, vInts, vIntss]) ?_
  try clear h
  rintro ⟨sl, hp, bs⟩ ⟨rfl, h⟩
  simp only [sls_cons, sls_one, sls_nil] at h
  refine vc_cut (fun st => t.xs.map (vL vs) = row ∧ st.hp = [.mem false [] [t.cells]]) ?_ ?_
  · refine vc_cut (At [(1, V.i r), (2, vInts vs), (3, .ptr 0 1 0 0), (10, vInts t.xs), (11, V.i t.xs.length), (12, V.i 0)] [.mem false [] [t.cells]]) (by simp -dsimp [h, At, hcl, vInts, vIntss]) ?_
    try clear h
    rintro ⟨sl, hp, bs⟩ ⟨rfl, h⟩
    simp only [sls_cons, sls_one, sls_nil] at h
    refine vc_block_of (vc_upto 1 (by simp) t.xs.length (fun i st => (∀ j x, j < i → t.xs[j]? = some x → row[j]? = some (vL vs x)) ∧ At [(1, V.i r), (2, vInts vs), (3, .ptr 0 1 0 0), (10, vInts t.xs), (11, V.i t.xs.length), (12, V.i i)] [.mem false [] [t.cells]] st) ⟨(fun _ _ h => by omega), rfl, by simpa using h⟩ ?_)
    clear h
    rintro i ⟨sl, hp, bs⟩ hi ⟨hx', rfl, h⟩
    simp only [sls_cons, sls_one] at h
    unfold order_table_holds.b0
    by_cases hil : i < t.xs.length
    · have hil' : (i : Int) < t.xs.length := by omega
      have hw : IntKind.i64.wrap ((i : Int) + 1) = ((i + 1 : Nat) : Int) := by rw [wrap64] <;> omega
      obtain ⟨x, hxx⟩ : ∃ x, x = t.xs[i] := ⟨_, rfl⟩
      obtain ⟨x1, x2⟩ := hx x (by rw [hxx]; exact List.getElem_mem hil)
      obtain ⟨p, hp'⟩ := Int.eq_ofNat_of_zero_le x1
      have p1 : p < vs.length := by omega
      have p2 : (p : Int) < vs.length := by omega
      have hir : i < row.length := by omega
      have hir' : (i : Int) < row.length := by omega
      have hr' : (r : Int) < t.rows.length := by omega
      have ev : vL vs x = vs[p] := by simp [vL, hp', List.getD, p1]
      rw [hp'] at hxx
      by_cases he : vs[p] = row[i]
      · simp -dsimp [h, hil, hil', hcl, vInts, vIntss, ← hxx, p1, p2, hr, hr', ← hrow, hir, hir', he, At, hw]
        intro j y hj hy
        by_cases hji : j = i
        · subst hji
          rw [List.getElem?_eq_getElem hil, ← hxx] at hy
          rw [← Option.some.inj hy, ← hp', ev, he, List.getElem?_eq_getElem hir]
        · exact hx' j y (by omega) hy
      · have hne : ¬ t.xs.map (vL vs) = row := fun e => he (by
          have : (t.xs.map (vL vs))[i]? = row[i]? := by rw [e]
          rw [List.getElem?_map, List.getElem?_eq_getElem hil, List.getElem?_eq_getElem hir, Option.map_some, ← hxx, ← hp', ev] at this
          exact Option.some.inj this)
        simp -dsimp [h, hil, hil', hcl, vInts, vIntss, ← hxx, p1, p2, hr, hr', ← hrow, hir, hir', he, order_table_holds.rs, hne]
    · have hil' : ¬ (i : Int) < t.xs.length := by omega
      simp -dsimp [h, hil']
      refine List.ext_getElem? fun j => ?_
      rw [List.getElem?_map]
      by_cases hj : j < t.xs.length
      · rw [List.getElem?_eq_getElem hj, hx' j _ (by omega) (List.getElem?_eq_getElem hj)]; rfl
      · rw [List.getElem?_eq_none (by omega), List.getElem?_eq_none (by omega)]; rfl
  · rintro ⟨sl, hp, bs⟩ ⟨he, rfl⟩
    simp -dsimp [order_table_holds.rs, he]

/-- The value that an assignment says of a place, behind so many steps. -/
def cntO (set : List Bool) (p : Pl) : Nat → Int
  | 0 => p.lo
  | q + 1 => cntO set p q + if set.getD (spanNum p.st (p.lo + 1) p.hi (p.lo + 1 + q) - 1).toNat false then 1 else 0
theorem cntO_le (set : List Bool) (p : Pl) : ∀ q, p.lo ≤ cntO set p q ∧ cntO set p q ≤ p.lo + q
  | 0 => ⟨Int.le_refl _, by simp [cntO]⟩
  | q + 1 => by
    have := cntO_le set p q
    simp only [cntO]
    split <;> omega
def valuesO (o : Od) (set : List Bool) : List Int := o.ps.map fun p => cntO set p (p.hi - p.lo).toNat

theorem values6_spec (o : Od) (h : OdB o) (set : List Bool) (hn : (set.length : Int) = o.n) (hp : ∀ p ∈ o.ps, p.lo ≤ p.hi ∧ p.hi - p.lo ≤ 63)
    (hs : ∀ p ∈ o.ps, ∀ k, p.lo < k → k ≤ p.hi → 1 ≤ spanNum p.st (p.lo + 1) p.hi k ∧ spanNum p.st (p.lo + 1) p.hi k ≤ set.length) :
    Pf Try.prog order_Order_Values.id [vOd o, vBools set] (.tup [vInts (valuesO o set), .bool true]) := by
  have hpn := h.psn
  have hps := h.ps
  have hnn := h.n
  clear h
  refine DC.of order_Order_Values.ok (by simp) ?_
  unfold order_Order_Values.ir
  obtain ⟨P, hP⟩ : ∃ P, P = V.view 4 (o.ps.map Pl.cells) := ⟨_, rfl⟩
  obtain ⟨T, hT⟩ : ∃ T, T = V.view 3 (o.ts.map Tb.cells) := ⟨_, rfl⟩
  obtain ⟨S, hS⟩ : ∃ S, S = vBools set := ⟨_, rfl⟩
  have hPi : P.ids = [] := by rw [hP]; rfl
  have hTi : T.ids = [] := by rw [hT]; rfl
  have hSi : S.ids = [] := by rw [hS]; rfl
  have hO : vOd o = .ref [P, T, V.i o.n] 0 := by rw [hP, hT]; rfl
  rw [hO, ← hS]
  obtain ⟨ps, hpe⟩ : ∃ ps, ps = o.ps := ⟨_, rfl⟩
  unfold valuesO
  rw [← hpe] at hP hps hpn hp hs ⊢
  refine vc_cut (At [(0, .ref [P, T, V.i o.n] 0), (1, S)] []) (by simp -dsimp [At]) ?_
  try clear h
  rintro ⟨sl, hp, bs⟩ ⟨rfl, h⟩
  simp only [sls_cons, sls_one, sls_nil] at h
  refine vc_cut (At [(0, .ref [P, T, V.i o.n] 0), (1, S)] []) (by simp -dsimp [h, At, hS, vBools, hn]) ?_
  try clear h
  rintro ⟨sl, hp, bs⟩ ⟨rfl, h⟩
  simp only [sls_cons, sls_one, sls_nil] at h
  refine vc_cut (At [(0, .ref [P, T, V.i o.n] 0), (1, S), (6, nilS)] []) (by simp -dsimp [h, At]) ?_
  try clear h
  rintro ⟨sl, hp, bs⟩ ⟨rfl, h⟩
  simp only [sls_cons, sls_one, sls_nil] at h
  let G : Pl → Int := fun p => cntO set p (p.hi - p.lo).toNat
  have hG : ∀ p, G p = cntO set p (p.hi - p.lo).toNat := fun _ => rfl
  refine vc_cut (At [(6, .own 0 1 0 ps.length ps.length)] [.mem false [] (ri (ps.map G))]) ?_ ?_
  · refine vc_cut (At [(1, S), (6, .own 0 1 0 0 0), (21, P), (22, V.i ps.length), (23, V.i 0)] [.mem false [] []]) ?_ ?_
    · simp -dsimp [h]
      refine ⟨_, Weak.ownnil 6 1 (by simp -dsimp [h]), ?_⟩
      simp -dsimp [h, At, hP]
    try clear h
    rintro ⟨sl, hp, bs⟩ ⟨rfl, h⟩
    simp only [sls_cons, sls_one, sls_nil] at h
    refine vc_block_of (vc_upto 1 (by simp) ps.length (fun i st => ∃ C, C = (ps.take i).map G ∧ At [(1, S), (6, .own 0 1 0 i i), (21, P), (22, V.i ps.length), (23, V.i i)] [.mem false [] (ri C)] st) ⟨[], by simp, rfl, by simpa using h⟩ ?_)
    clear h
    rintro i ⟨sl, hp0, bs⟩ hi ⟨C, hC, rfl, h⟩
    simp only [sls_cons, sls_one] at h
    unfold order_Order_Values.b0
    have hCl : C.length = i := by rw [hC]; simp; omega
    have rC : (ri C).length = i := by rw [ri_len]; exact hCl
    by_cases hil : i < ps.length
    · have hil' : (i : Int) < ps.length := by omega
      have hw : IntKind.i64.wrap ((i : Int) + 1) = ((i + 1 : Nat) : Int) := by rw [wrap64] <;> omega
      obtain ⟨p, hp'⟩ : ∃ p, p = ps[i] := ⟨_, rfl⟩
      have hpm : p ∈ ps := by rw [hp']; exact List.getElem_mem hil
      have hpb := hps p hpm
      obtain ⟨l1, l2⟩ := hp p hpm
      have hsp := hs p hpm
      have b1 := hpb.lo; have b2 := hpb.hi; have b3 := hpb.st
      have c1 := steps6_spec p hpb
      have hcl : p.cells = [V.i p.lo, V.i p.hi, V.i p.st, V.i p.kd] := rfl
      rw [hcl] at c1
      have w1 : IntKind.i64.wrap (p.lo + 1) = p.lo + 1 := wrap64 (by omega) (by omega)
      have hsu : (ps.take (i + 1)).map G = C ++ [G p] := by rw [List.take_succ_eq_append_getElem hil, List.map_append, ← hC, ← hp']; rfl
      have hbb : ((i : Int) + 1) * 8 ≤ 140737488355328 := by omega
      refine vc_cut (At [(1, S), (6, .own 0 1 0 i i), (21, P), (22, V.i ps.length), (23, V.i i), (24, .bool true)] [.mem false [] (ri C)]) (by simp -dsimp [h, At, hil, hil']) ?_
      try clear h
      rintro ⟨sl, hp, bs⟩ ⟨rfl, h⟩
      simp only [sls_cons, sls_one, sls_nil] at h
      refine vc_cut (At [(1, S), (6, .own 0 1 0 i i), (21, P), (22, V.i ps.length), (23, V.i i)] [.mem false [] (ri C)]) (by simp -dsimp [h, At]) ?_
      try clear h
      rintro ⟨sl, hp, bs⟩ ⟨rfl, h⟩
      simp only [sls_cons, sls_one, sls_nil] at h
      refine vc_cut (At [(1, S), (6, .own 0 1 0 (i + 1) (i + 1)), (21, P), (22, V.i ps.length), (23, V.i i)] [.mem false [] (ri (C ++ [G p])), .mem false [] [p.cells], .res, .res]) ?_ ?_
      · refine vc_block_of ?_
        refine vc_cut (At [(1, S), (6, .own 0 1 0 i i), (8, .ptr 1 1 0 0), (21, P), (22, V.i ps.length), (23, V.i i)] [.mem false [] (ri C), .mem false [] [p.cells]]) (by simp -dsimp [h, At, hP, hil, hil', ← hp', hcl]) ?_
        try clear h
        rintro ⟨sl, hp, bs⟩ ⟨rfl, h⟩
        simp only [sls_cons, sls_one, sls_nil] at h
        refine vc_cut (At [(1, S), (6, .own 0 1 0 i i), (8, .ptr 1 1 0 0), (9, V.i p.lo), (21, P), (22, V.i ps.length), (23, V.i i)] [.mem false [] (ri C), .mem false [] [p.cells]]) (by simp -dsimp [h, At, hcl]) ?_
        try clear h
        rintro ⟨sl, hp, bs⟩ ⟨rfl, h⟩
        simp only [sls_cons, sls_one, sls_nil] at h
        refine vc_cut (At [(1, S), (6, .own 0 1 0 i i), (8, .ptr 1 1 0 0), (9, V.i (G p)), (21, P), (22, V.i ps.length), (23, V.i i)] [.mem false [] (ri C), .mem false [] [p.cells]]) ?_ ?_
        · refine vc_cut (At [(1, S), (6, .own 0 1 0 i i), (8, .ptr 1 1 0 0), (9, V.i p.lo), (10, V.i (p.lo + 1)), (21, P), (22, V.i ps.length), (23, V.i i)] [.mem false [] (ri C), .mem false [] [p.cells]]) (by simp -dsimp [h, At, hcl, w1]) ?_
          try clear h
          rintro ⟨sl, hp, bs⟩ ⟨rfl, h⟩
          simp only [sls_cons, sls_one, sls_nil] at h
          refine vc_block_of (vc_upto 2 (by simp) (p.hi - p.lo).toNat (fun q st => At [(1, S), (6, .own 0 1 0 i i), (8, .ptr 1 1 0 0), (9, V.i (cntO set p q)), (10, V.i (p.lo + 1 + q)), (21, P), (22, V.i ps.length), (23, V.i i)] [.mem false [] (ri C), .mem false [] [p.cells]] st) ⟨rfl, by simpa [cntO] using h⟩ ?_)
          clear h
          rintro q ⟨sl, hp1, bs⟩ hq ⟨rfl, h⟩
          simp only [sls_cons, sls_one] at h
          unfold order_Order_Values.b1
          have hcb := cntO_le set p q
          have w2 : IntKind.i64.wrap (p.lo + 1 + (q : Int) + 1) = p.lo + 1 + ((q + 1 : Nat) : Int) := by rw [wrap64] <;> omega
          have w3 : IntKind.i64.wrap (cntO set p q + 1) = cntO set p q + 1 := wrap64 (by omega) (by omega)
          by_cases hql : q < (p.hi - p.lo).toNat
          · have hk : p.lo + 1 + (q : Int) ≤ p.hi := by omega
            obtain ⟨s1, s2⟩ := hsp (p.lo + 1 + q) (by omega) hk
            have c2 := number6_spec p.st (p.lo + 1) p.hi (p.lo + 1 + q) (by unfold W10; omega) (by unfold W10; omega) (by unfold W10; omega) (by unfold W10; omega)
            have hcs : cntO set p (q + 1) = cntO set p q + if set.getD (spanNum p.st (p.lo + 1) p.hi (p.lo + 1 + q) - 1).toNat false then 1 else 0 := rfl
            obtain ⟨n, hnn'⟩ : ∃ n, n = spanNum p.st (p.lo + 1) p.hi (p.lo + 1 + q) := ⟨_, rfl⟩
            rw [← hnn'] at c2 s1 s2 hcs
            have w4 : IntKind.i64.wrap (n - 1) = n - 1 := wrap64 (by omega) (by omega)
            obtain ⟨e, he⟩ := Int.eq_ofNat_of_zero_le (by omega : 0 ≤ n - 1)
            rw [he] at w4 hcs
            have e1 : e < set.length := by omega
            have e2 : (e : Int) < set.length := by omega
            simp only [Int.toNat_natCast] at hcs
            cases hb : set[e]
            · have : set.getD e false = false := by simp [List.getD, e1, hb]
              rw [if_neg (by rw [this]; simp), Int.add_zero] at hcs
              simp -dsimp [h, hcl, hk]
              refine gcall (c1) (by simp -dsimp [h]) (by simp -dsimp [h]) ?_
              simp -dsimp [h]
              refine gcall (c2) (by simp -dsimp [h, he, w4, hS, vBools, e1, e2, hb, At, w2, hql, hcs, hPi, hcl]) (by simp -dsimp [h, he, w4, hS, vBools, e1, e2, hb, At, w2, hql, hcs, hPi, hcl]) ?_
              simp -dsimp [h, he, w4, hS, vBools, e1, e2, hb, At, w2, hql, hcs, hPi, hcl]
            · have : set.getD e false = true := by simp [List.getD, e1, hb]
              rw [if_pos this] at hcs
              simp -dsimp [h, hcl, hk]
              refine gcall (c1) (by simp -dsimp [h]) (by simp -dsimp [h]) ?_
              simp -dsimp [h]
              refine gcall (c2) (by simp -dsimp [h, he, w4, w3, hS, vBools, e1, e2, hb, At, w2, hql, hcs, hPi, hcl]) (by simp -dsimp [h, he, w4, w3, hS, vBools, e1, e2, hb, At, w2, hql, hcs, hPi, hcl]) ?_
              simp -dsimp [h, he, w4, w3, hS, vBools, e1, e2, hb, At, w2, hql, hcs, hPi, hcl]
          · have hk : ¬ p.lo + 1 + (q : Int) ≤ p.hi := by omega
            have e : q = (p.hi - p.lo).toNat := by omega
            simp -dsimp [h, hcl, hk, At, hG, ← e]
        try clear h
        rintro ⟨sl, hp, bs⟩ ⟨rfl, h⟩
        simp only [sls_cons, sls_one, sls_nil] at h
        simp -dsimp [h, At, rC, hbb]
        simp [ri]
      try clear h
      rintro ⟨sl, hp, bs⟩ ⟨rfl, h⟩
      simp only [sls_cons, sls_one, sls_nil] at h
      simp -dsimp [h, At, hw, hil, hPi, hSi]
      rw [← List.map_take, hsu]
    · have hil' : ¬ (i : Int) < ps.length := by omega
      have e : ps.take i = ps := List.take_of_length_le (by omega)
      have e2 : i = ps.length := by omega
      rw [e] at hC
      simp -dsimp [h, hil', At, hC, e2]
  try clear h
  rintro ⟨sl, hp, bs⟩ ⟨rfl, h⟩
  simp only [sls_cons, sls_one, sls_nil] at h
  have ht : List.take ps.length (ri (ps.map G)) = ri (ps.map G) := List.take_of_length_le (by rw [ri_len]; simp)
  simp -dsimp [h, order_Order_Values.rs, ri_len, ht, vInts]
  simp [ri, hG]
end Go.Abs.G

namespace Go.Abs.G
open Go.Proofs
set_option linter.unusedVariables false
set_option linter.unusedSimpArgs false

section
variable {m : Model} (hr : Right m)
include hr
theorem tab_ok {i : Nat} (hi : i < m.cons.length) (hk : (cAt m i).kind = 8) : (∀ x ∈ (cAt m i).xs, 0 ≤ x ∧ x < m.vars.length) ∧ (∀ r ∈ (cAt m i).rows, r.length = (cAt m i).xs.length) ∧ (cAt m i).xs.length ≤ 64 ∧ (cAt m i).rows.length ≤ 64 := by
  have hm : cAt m i ∈ m.cons := by simp only [cAt, List.getD, List.getElem?_eq_getElem hi, Option.getD_some]; exact List.getElem_mem hi
  have hc := hr.con _ hm
  unfold conB at hc
  rw [hk] at hc
  have hc' : conN (cAt m i) m.vars.length ⟨false, true, false, true, false, false, false, false, false⟩ = 0 := hc
  have ok := ConOk.of hc'
  refine ⟨ok.xs, ?_, ok.xsN, ok.rowsN⟩
  unfold conN at hc'
  split at hc'
  · cases hc'
  · split at hc'
    · cases hc'
    · split at hc'
      · cases hc'
      · next h2 =>
        intro r hrm
        simp only [Bool.or_eq_true, not_or, wideB, Bool.true_and, List.any_eq_true, decide_eq_true_eq, not_exists, not_and] at h2
        have := h2.2.2 r hrm
        omega
theorem tab_no {i : Nat} (hk : (cAt m i).kind ≠ 8) : (cAt m i).rows = [] := by
  by_cases hi : i < m.cons.length
  · have hm : cAt m i ∈ m.cons := by simp only [cAt, List.getD, List.getElem?_eq_getElem hi, Option.getD_some]; exact List.getElem_mem hi
    have hc := hr.con _ hm
    unfold conB at hc
    split at hc
    · cases hc
    · next n hn =>
      have hnr : n.rows = false := by
        unfold needs at hn
        repeat' split at hn
        all_goals first | (cases hn; rfl) | (rename_i h; exact absurd h hk) | cases hn
      unfold conN at hc
      split at hc
      · cases hc
      · split at hc
        · cases hc
        · next h1 =>
          simp [fieldB, hnr] at h1
          exact h1.2
  · have : cAt m i = c0 := by simp [cAt, List.getD, List.getElem?_eq_none (Nat.le_of_not_lt hi)]
    rw [this]; rfl
theorem pl_ok {i : Nat} (hi : i < m.vars.length) : PlB (plO m i) := by
  have hv := v_ok hr hi
  have h1 := s_lt hr (i := i); have h2 := s_A hr hi; have h3 := An_le hr; have h4 := k_A hr (i := i); have h5 := k_B hr hi; have h6 := Bn_le hr; have h7 := A_0 hr; have h8 := w1_0 hr i; have h9 := w2_0 hr i
  refine ⟨hv.lo, hv.hi, ?_, ?_⟩
  · unfold plO; simp only; split <;> omega
  · unfold plO; simp only; split <;> omega
theorem od_ok : OdB (orderOf m) := by
  have h1 := hr.nv; have h2 := hr.nc
  refine ⟨fun p hp => ?_, by simp [orderOf]; omega, fun t ht => ?_, by simp [orderOf]; omega, ?_⟩
  · obtain ⟨i, hi, rfl⟩ := List.mem_map.1 hp
    exact pl_ok hr (List.mem_range.1 hi)
  · obtain ⟨i, hi, rfl⟩ := List.mem_map.1 ht
    have hi := List.mem_range.1 hi
    unfold tbO
    by_cases hk : (cAt m i).kind = 8
    · rw [if_pos hk]
      obtain ⟨_, _, t3, t4⟩ := tab_ok hr hi hk
      have h3 := t_B (m := m) (i := i); have h4 := t_N (m := m) hi; have h5 := Nn_le hr; have h6 := A_B hr; have h7 := A_0 hr; have h8 := w3_0 (m := m) i
      exact ⟨by simp only; omega, by simp only; omega, by simp only; omega⟩
    · rw [if_neg hk]; exact ⟨by simp, by simp, by simp⟩
  · have h3 := B_N hr; have h4 := A_B hr; have h5 := A_0 hr; have h6 := Nn_le hr
    show 0 ≤ Nn m ∧ Nn m ≤ _
    omega
end

structure SetOk (m : Model) (vs : List Int) (out : List Bool) : Prop where
  kd : ∀ i < m.vars.length, chosen m i = true → out[(kO m i + (vL vs i - (vAt m i).lo)).toNat]? = some true
  n : (out.length : Int) = Nn m
  step : ∀ i < m.vars.length, ∀ k, (vAt m i).lo < k → k ≤ (vAt m i).hi → out[(sO m i + (k - (vAt m i).lo) - 1).toNat]? = some (decide (k ≤ vL vs i))
  row : ∀ i < m.cons.length, (cAt m i).kind = 8 → ∀ r < (cAt m i).rows.length, out[(tO m i + r).toNat]? = some (holdsT (tbO m i) r vs)

/-- Steps that are laid; places that are free. -/
def StS (m : Model) (vs : List Int) (i : Nat) (out : List Bool) : Prop := ∀ x < i, ∀ k, (vAt m x).lo < k → k ≤ (vAt m x).hi → out[(sO m x + (k - (vAt m x).lo) - 1).toNat]? = some (decide (k ≤ vL vs x))
def KdP (m : Model) (vs : List Int) (i : Nat) (out : List Bool) : Prop := ∀ x < i, chosen m x = true → out[(kO m x + (vL vs x - (vAt m x).lo)).toNat]? = some true
def StP (m : Model) (vs : List Int) (i : Nat) (out : List Bool) : Prop := StS m vs i out ∧ KdP m vs i out
def ZeP (m : Model) (i : Nat) (out : List Bool) : Prop := ∀ j : Nat, sO m i ≤ j → j < An m → out[j]? = some false
def RowP (m : Model) (vs : List Int) (i : Nat) (out : List Bool) : Prop := ∀ x < i, (cAt m x).kind = 8 → ∀ r < (cAt m x).rows.length, out[(tO m x + (r : Int)).toNat]? = some (holdsT (tbO m x) r vs)
def RwP (m : Model) (vs : List Int) (i q : Nat) (out : List Bool) : Prop := (cAt m i).kind = 8 → ∀ r < q, out[(tO m i + (r : Int)).toNat]? = some (holdsT (tbO m i) r vs)
structure InP (m : Model) (i q : Nat) (out out' : List Bool) : Prop where
  low : ∀ j : Nat, (j : Int) < sO m i → out'[j]? = out[j]?
  tr : ∀ j : Nat, sO m i ≤ j → (j : Int) < sO m i + q → out'[j]? = some true
  fa : ∀ j : Nat, sO m i + q ≤ j → j < An m → out'[j]? = some false
  up : ∀ j : Nat, An m ≤ j → out'[j]? = out[j]?

theorem assign6_spec (m : Model) (hr : Right m) (vs : List Int) (hn : vs.length = m.vars.length) (hv : ∀ i < m.vars.length, (vAt m i).lo ≤ vL vs i ∧ vL vs i ≤ (vAt m i).hi) :
    DP Try.prog order_Order_Assignment.id [vOd (orderOf m), vInts vs] (fun r => ∃ out, r = .tup [vBools out, .bool true] ∧ SetOk m vs out) := by
  have hob := od_ok hr
  have hnv := hr.nv
  have hnc := hr.nc
  have bA := An_le hr; have bB := Bn_le hr; have bN := Nn_le hr; have bAB := A_B hr; have bBN := B_N hr; have bA0 := A_0 hr
  refine DC.of order_Order_Assignment.ok (by simp) ?_
  unfold order_Order_Assignment.ir
  obtain ⟨P, hP⟩ : ∃ P, P = V.view 4 ((orderOf m).ps.map Pl.cells) := ⟨_, rfl⟩
  obtain ⟨T, hT⟩ : ∃ T, T = V.view 3 ((orderOf m).ts.map Tb.cells) := ⟨_, rfl⟩
  obtain ⟨X, hX⟩ : ∃ X, X = vInts vs := ⟨_, rfl⟩
  have hPi : P.ids = [] := by rw [hP]; rfl
  have hTi : T.ids = [] := by rw [hT]; rfl
  have hXi : X.ids = [] := by rw [hX]; rfl
  have hO : vOd (orderOf m) = .ref [P, T, V.i (Nn m)] 0 := by rw [hP, hT]; rfl
  have hPl : (orderOf m).ps.length = m.vars.length := by simp [orderOf]
  have hTl : (orderOf m).ts.length = m.cons.length := by simp [orderOf]
  have hPg : ∀ i (hi : i < m.vars.length) (hh : i < (orderOf m).ps.length), (orderOf m).ps[i]'hh = plO m i := fun i hi hh => by simp [orderOf]
  have hTg : ∀ i (hi : i < m.cons.length) (hh : i < (orderOf m).ts.length), (orderOf m).ts[i]'hh = tbO m i := fun i hi hh => by simp [orderOf]
  rw [hO]
  obtain ⟨N, hN⟩ := Int.eq_ofNat_of_zero_le (by omega : 0 ≤ Nn m)
  have hNb : N ≤ 8160 := by omega
  have hNb' : (N : Int) ≤ 140737488355328 := by omega
  obtain ⟨ps, hpe⟩ : ∃ ps, ps = (orderOf m).ps := ⟨_, rfl⟩
  obtain ⟨ts, hte⟩ : ∃ ts, ts = (orderOf m).ts := ⟨_, rfl⟩
  rw [← hpe] at hP hPl hPg
  rw [← hte] at hT hTl hTg
  rw [hN, ← hX]
  refine vc_cut (At [(0, .ref [P, T, V.i N] 0), (1, X)] []) (by simp -dsimp [At]) ?_
  try clear h
  rintro ⟨sl, hp, bs⟩ ⟨rfl, h⟩
  simp only [sls_cons, sls_one, sls_nil] at h
  refine vc_cut (At [(0, .ref [P, T, V.i N] 0), (1, X)] []) (by simp -dsimp [h, At, hX, vInts, hP, hn, hPl]) ?_
  try clear h
  rintro ⟨sl, hp, bs⟩ ⟨rfl, h⟩
  simp only [sls_cons, sls_one, sls_nil] at h
  refine vc_cut (At [(0, .ref [P, T, V.i N] 0), (1, X), (6, .own 0 1 0 N N)] [.mem false [] (rb (List.replicate N false))]) (by simp -dsimp [h, At, hNb', rb]) ?_
  try clear h
  rintro ⟨sl, hp, bs⟩ ⟨rfl, h⟩
  simp only [sls_cons, sls_one, sls_nil] at h
  refine vc_cut (fun st => ∃ out : List Bool, out.length = N ∧ StP m vs m.vars.length out ∧ At [(0, .ref [P, T, V.i N] 0), (1, X), (6, .own 0 1 0 N N)] [.mem false [] (rb out)] st) ?_ ?_
  · refine vc_cut (At [(0, .ref [P, T, V.i N] 0), (1, X), (6, .own 0 1 0 N N), (31, P), (32, V.i ps.length), (33, V.i 0)] [.mem false [] (rb (List.replicate N false))]) (by simp -dsimp [h, At, hP]) ?_
    try clear h
    rintro ⟨sl, hp, bs⟩ ⟨rfl, h⟩
    simp only [sls_cons, sls_one, sls_nil] at h
    refine vc_block_of (vc_upto 1 (by simp) ps.length (fun i st => ∃ out : List Bool, out.length = N ∧ StP m vs i out ∧ ZeP m i out ∧
      At [(0, .ref [P, T, V.i N] 0), (1, X), (6, .own 0 1 0 N N), (31, P), (32, V.i ps.length), (33, V.i i)] [.mem false [] (rb out)] st) ⟨List.replicate N false, by simp, ⟨fun x hx => by omega, fun x hx => by omega⟩, (fun j _ hj => by rw [List.getElem?_replicate, if_pos (by omega)]), rfl, by simpa using h⟩ ?_)
    clear h
    rintro i ⟨sl, hp0, bs⟩ hi ⟨out, hol, hst, hze, rfl, h⟩
    simp only [sls_cons, sls_one] at h
    unfold order_Order_Assignment.b0
    by_cases hil : i < ps.length
    · have hil' : (i : Int) < ps.length := by omega
      have hiv : i < m.vars.length := by omega
      have hw : IntKind.i64.wrap ((i : Int) + 1) = ((i + 1 : Nat) : Int) := by rw [wrap64] <;> omega
      have hpb := pl_ok hr hiv
      obtain ⟨p, hp'⟩ : ∃ p, p = plO m i := ⟨_, rfl⟩
      have hpg : ∀ hh, ps[i]'hh = p := fun hh => by rw [hPg i hiv hh, hp']
      have plo : p.lo = (vAt m i).lo := by rw [hp']; rfl
      have phi : p.hi = (vAt m i).hi := by rw [hp']; rfl
      have pst : p.lo < p.hi → p.st = sO m i + 1 := fun e => by rw [plo, phi] at e; rw [hp']; exact if_pos e
      have pkd : p.kd = if chosen m i then kO m i + 1 else 0 := by rw [hp']; rfl
      rw [← hp'] at hpb
      have b1 := hpb.lo; have b2 := hpb.hi; have b3 := hpb.st; have b4 := hpb.kd
      have q1 := s_lt hr (i := i); have q2 := s_A hr hiv; have q3 := k_A hr (i := i); have q4 := k_B hr hiv
      have hwd : w1 m i = p.hi - p.lo := by rw [plo, phi]; rfl
      obtain ⟨hv1, hv2⟩ := hv i hiv
      rw [← plo] at hv1
      rw [← phi] at hv2
      obtain ⟨v, hvv⟩ : ∃ v, v = vL vs i := ⟨_, rfl⟩
      rw [← hvv] at hv1 hv2
      have hvg : ∀ hh, vs[i]'hh = v := fun hh => by rw [hvv]; simp [vL, List.getD, hh]
      have hivs : i < vs.length := by omega
      have hivs' : (i : Int) < vs.length := by omega
      have hcl : p.cells = [V.i p.lo, V.i p.hi, V.i p.st, V.i p.kd] := rfl
      have c1 := steps6_spec p hpb
      have c3 := kinds6_spec p
      rw [hcl] at c1 c3
      have c4 := number6_spec p.kd p.lo p.hi v (by unfold W10; omega) (by unfold W10; omega) (by unfold W10; omega) (by unfold W10; omega)
      have w1' : IntKind.i64.wrap (p.lo + 1) = p.lo + 1 := wrap64 (by omega) (by omega)
      have n1 : ¬ v < p.lo := by omega
      have n2 : ¬ p.hi < v := by omega
      refine vc_cut (At [(0, .ref [P, T, V.i N] 0), (1, X), (6, .own 0 1 0 N N), (31, P), (32, V.i ps.length), (33, V.i i), (34, .bool true)] [.mem false [] (rb out)]) (by simp -dsimp [h, At, hil, hil']) ?_
      try clear h
      rintro ⟨sl, hp, bs⟩ ⟨rfl, h⟩
      simp only [sls_cons, sls_one, sls_nil] at h
      refine vc_cut (At [(0, .ref [P, T, V.i N] 0), (1, X), (6, .own 0 1 0 N N), (31, P), (32, V.i ps.length), (33, V.i i)] [.mem false [] (rb out)]) (by simp -dsimp [h, At]) ?_
      try clear h
      rintro ⟨sl, hp, bs⟩ ⟨rfl, h⟩
      simp only [sls_cons, sls_one, sls_nil] at h
      refine vc_cut (fun st => ∃ out' : List Bool, out'.length = N ∧ StP m vs (i + 1) out' ∧ ZeP m (i + 1) out' ∧ At [(0, .ref [P, T, V.i N] 0), (1, X), (6, .own 0 1 0 N N), (31, P), (32, V.i ps.length), (33, V.i i)] [.mem false [] (rb out'), .mem false [] [p.cells]] st) ?_ ?_
      · refine vc_block_of ?_
        refine vc_cut (At [(0, .ref [P, T, V.i N] 0), (1, X), (6, .own 0 1 0 N N), (7, V.i i), (8, .ptr 1 1 0 0), (31, P), (32, V.i ps.length), (33, V.i i)] [.mem false [] (rb out), .mem false [] [p.cells]]) (by simp -dsimp [h, At, hP, hil, hil', hpg, hcl]) ?_
        try clear h
        rintro ⟨sl, hp, bs⟩ ⟨rfl, h⟩
        simp only [sls_cons, sls_one, sls_nil] at h
        refine vc_cut (At [(0, .ref [P, T, V.i N] 0), (1, X), (6, .own 0 1 0 N N), (8, .ptr 1 1 0 0), (9, V.i v), (31, P), (32, V.i ps.length), (33, V.i i)] [.mem false [] (rb out), .mem false [] [p.cells]]) (by simp -dsimp [h, At, hX, vInts, hivs, hivs', hvg]) ?_
        try clear h
        rintro ⟨sl, hp, bs⟩ ⟨rfl, h⟩
        simp only [sls_cons, sls_one, sls_nil] at h
        refine vc_cut (At [(0, .ref [P, T, V.i N] 0), (1, X), (6, .own 0 1 0 N N), (8, .ptr 1 1 0 0), (9, V.i v), (31, P), (32, V.i ps.length), (33, V.i i)] [.mem false [] (rb out), .mem false [] [p.cells]]) (by simp -dsimp [h, At, hcl, n1, n2]) ?_
        try clear h
        rintro ⟨sl, hp, bs⟩ ⟨rfl, h⟩
        simp only [sls_cons, sls_one, sls_nil] at h
        refine vc_cut (fun st => ∃ out' : List Bool, out'.length = N ∧ StS m vs (i + 1) out' ∧ KdP m vs i out' ∧ ZeP m (i + 1) out' ∧ At [(0, .ref [P, T, V.i N] 0), (1, X), (6, .own 0 1 0 N N), (8, .ptr 1 1 0 0), (9, V.i v), (31, P), (32, V.i ps.length), (33, V.i i)] [.mem false [] (rb out'), .mem false [] [p.cells]] st) ?_ ?_
        · refine vc_cut (At [(0, .ref [P, T, V.i N] 0), (1, X), (6, .own 0 1 0 N N), (8, .ptr 1 1 0 0), (9, V.i v), (10, V.i (p.lo + 1)), (31, P), (32, V.i ps.length), (33, V.i i)] [.mem false [] (rb out), .mem false [] [p.cells]]) (by simp -dsimp [h, At, hcl, w1']) ?_
          try clear h
          rintro ⟨sl, hp, bs⟩ ⟨rfl, h⟩
          simp only [sls_cons, sls_one, sls_nil] at h
          refine vc_block_of (vc_upto 2 (by simp) (v - p.lo).toNat (fun q st => ∃ out' : List Bool, out'.length = N ∧ InP m i q out out' ∧
            At [(0, .ref [P, T, V.i N] 0), (1, X), (6, .own 0 1 0 N N), (8, .ptr 1 1 0 0), (9, V.i v), (10, V.i (p.lo + 1 + q)), (31, P), (32, V.i ps.length), (33, V.i i)] [.mem false [] (rb out'), .mem false [] [p.cells]] st) ⟨out, hol, ⟨fun j _ => rfl, fun j h1 h2 => by omega, fun j h1 h2 => hze j (by omega) h2, fun j _ => rfl⟩, rfl, by simpa using h⟩ ?_)
          clear h
          rintro q ⟨sl, hp1, bs⟩ hq ⟨out', hol', ⟨hlow, htr, hfa, hup⟩, rfl, h⟩
          simp only [sls_cons, sls_one] at h
          unfold order_Order_Assignment.b1
          have w2 : IntKind.i64.wrap (p.lo + 1 + (q : Int) + 1) = p.lo + 1 + ((q + 1 : Nat) : Int) := by rw [wrap64] <;> omega
          by_cases hql : q < (v - p.lo).toNat
          · have hk : p.lo + 1 + (q : Int) ≤ v := by omega
            have c2 := number6_spec p.st (p.lo + 1) p.hi (p.lo + 1 + q) (by unfold W10; omega) (by unfold W10; omega) (by unfold W10; omega) (by unfold W10; omega)
            have es := pst (by omega)
            have en : spanNum p.st (p.lo + 1) p.hi (p.lo + 1 + q) = sO m i + q + 1 := by unfold spanNum; rw [if_neg (by omega), es]; omega
            rw [en] at c2
            have w4 : IntKind.i64.wrap (sO m i + (q : Int) + 1 - 1) = sO m i + q := by rw [wrap64] <;> omega
            obtain ⟨e, he⟩ := Int.eq_ofNat_of_zero_le (by omega : 0 ≤ sO m i + q)
            have e1 : e < N := by omega
            have e2 : (e : Int) < N := by omega
            have w5 : IntKind.i64.wrap (e : Int) = e := by rw [wrap64] <;> omega
            have rl : (rb out').length = N := by rw [rb_len]; exact hol'
            have e3 : ∀ hh, (rb out')[e]'hh = [.bool (out'[e]'(by omega))] := fun hh => rb_get hh
            simp -dsimp [h, hcl, hk]
            refine gcall (c1) (by simp -dsimp [h]) (by simp -dsimp [h]) ?_
            simp -dsimp [h]
            refine gcall (c2) (by simp -dsimp [h, w4, w5, he, e1, e2, rl, e3, At, w2, hql, hPi, hXi, hcl, rb_set]) (by simp -dsimp [h, w4, w5, he, e1, e2, rl, e3, At, w2, hql, hPi, hXi, hcl, rb_set]) ?_
            simp -dsimp [h, w4, w5, he, e1, e2, rl, e3, At, w2, hql, hPi, hXi, hcl, rb_set]
            refine ⟨out'.set e true, by simpa using hol', ⟨fun j hj => ?_, fun j hj1 hj2 => ?_, fun j hj1 hj2 => ?_, fun j hj => ?_⟩, rfl⟩
            · rw [List.getElem?_set_ne (by omega)]; exact hlow j hj
            · by_cases hje : e = j
              · subst hje; rw [List.getElem?_set_self (by omega)]
              · rw [List.getElem?_set_ne (by omega)]; exact htr j hj1 (by omega)
            · rw [List.getElem?_set_ne (by omega)]; exact hfa j (by omega) hj2
            · rw [List.getElem?_set_ne (by omega)]; exact hup j hj
          · have hk : ¬ p.lo + 1 + (q : Int) ≤ v := by omega
            have e : (q : Int) = v - p.lo := by omega
            simp -dsimp [h, hcl, hk, At]
            refine ⟨out', hol', fun x hx k hk1 hk2 => ?_, fun x hx hc => ?_, fun j hj1 hj2 => ?_, rfl⟩
            · by_cases hxi : x = i
              · subst hxi
                rw [← plo] at hk1 ⊢
                rw [← phi] at hk2
                rw [← hvv]
                by_cases hkv : k ≤ v
                · rw [decide_eq_true hkv]
                  exact htr _ (by omega) (by omega)
                · rw [decide_eq_false hkv]
                  exact hfa _ (by omega) (by omega)
              · have hxl : x < i := by omega
                have s1 := s_s hr hxl
                have s2 := s_lt hr (i := x)
                have s3 : w1 m x = (vAt m x).hi - (vAt m x).lo := rfl
                rw [hlow _ (by omega)]
                exact hst.1 x hxl k hk1 hk2
            · have s1 := k_A hr (i := x)
              have s2 := (hv x (by omega)).1
              rw [hup _ (by omega)]; exact hst.2 x hx hc
            · have s1 : sO m (i + 1) = sO m i + w1 m i := rfl
              exact hfa j (by omega) hj2
        clear h
        rintro ⟨sl, hp1, bs⟩ ⟨out', hol', hst', hkd', hze', rfl, h⟩; simp only [sls_cons, sls_one] at h
        have rl : (rb out').length = N := by rw [rb_len]; exact hol'
        by_cases hch : chosen m i = true
        · have ek : p.kd = kO m i + 1 := by rw [pkd, if_pos hch]
          have q5 : w2 m i = w1 m i + 1 := if_pos hch
          have en : spanNum p.kd p.lo p.hi v = kO m i + (v - p.lo) + 1 := by unfold spanNum; rw [if_neg (by omega), ek]; omega
          rw [en] at c4
          have w4 : IntKind.i64.wrap (kO m i + (v - p.lo) + 1 - 1) = kO m i + (v - p.lo) := by rw [wrap64] <;> omega
          have g1 : 0 < kO m i + (v - p.lo) + 1 := by omega
          obtain ⟨n', hn'⟩ : ∃ n', n' = kO m i + (v - p.lo) + 1 := ⟨_, rfl⟩
          rw [← hn'] at c4 w4 g1
          obtain ⟨e, he⟩ := Int.eq_ofNat_of_zero_le (by omega : 0 ≤ kO m i + (v - p.lo))
          rw [he] at w4
          have e1 : e < N := by omega
          have e2 : (e : Int) < N := by omega
          have e3 : ∀ hh, (rb out')[e]'hh = [.bool (out'[e]'(by omega))] := fun hh => rb_get hh
          refine vc_cut (At [(0, .ref [P, T, V.i N] 0), (1, X), (6, .own 0 1 0 N N), (11, V.i n'), (31, P), (32, V.i ps.length), (33, V.i i)] [.mem false [] (rb out'), .mem false [] [p.cells]]) (by (simp -dsimp [h, hcl]; refine gcall c3 (by simp -dsimp [h]) (by simp -dsimp [h]) ?_; simp -dsimp [h]; refine gcall c4 (by simp -dsimp [h]) (by simp -dsimp [h]) ?_; simp -dsimp [h, At, hcl])) ?_
          try clear h
          rintro ⟨sl, hp, bs⟩ ⟨rfl, h⟩
          simp only [sls_cons, sls_one, sls_nil] at h
          simp -dsimp [h, g1, w4, e1, e2, rl, e3, At, rb_set]
          refine ⟨out'.set e true, by simpa using hol', ⟨fun x hx k hk1 hk2 => ?_, fun x hx hc => ?_⟩, fun j hj1 hj2 => ?_, rfl⟩
          · have s2 := s_A hr (i := x) (by omega)
            have s1 := s_lt hr (i := x)
            have s3 : w1 m x = (vAt m x).hi - (vAt m x).lo := rfl
            rw [List.getElem?_set_ne (by omega)]; exact hst' x hx k hk1 hk2
          · by_cases hxi : x = i
            · subst hxi
              rw [← hvv, ← plo, he, Int.toNat_natCast, List.getElem?_set_self (by omega)]
            · have hxl : x < i := by omega
              have s1 := k_k hr hxl
              have s2 := k_A hr (i := x)
              have s4 : w2 m x = w1 m x + 1 := if_pos hc
              have s3 : w1 m x = (vAt m x).hi - (vAt m x).lo := rfl
              obtain ⟨s5, s6⟩ := hv x (by omega)
              rw [List.getElem?_set_ne (by omega)]; exact hkd' x hxl hc
          · rw [List.getElem?_set_ne (by omega)]; exact hze' j hj1 hj2
        · have ek : p.kd = 0 := by rw [pkd, if_neg hch]
          have en : spanNum p.kd p.lo p.hi v = 0 := by unfold spanNum; rw [if_pos (.inl ek)]
          rw [en] at c4
          refine vc_cut (At [(0, .ref [P, T, V.i N] 0), (1, X), (6, .own 0 1 0 N N), (11, V.i 0), (31, P), (32, V.i ps.length), (33, V.i i)] [.mem false [] (rb out'), .mem false [] [p.cells]]) (by (simp -dsimp [h, hcl]; refine gcall c3 (by simp -dsimp [h]) (by simp -dsimp [h]) ?_; simp -dsimp [h]; refine gcall c4 (by simp -dsimp [h]) (by simp -dsimp [h]) ?_; simp -dsimp [h, At, hcl])) ?_
          try clear h
          rintro ⟨sl, hp, bs⟩ ⟨rfl, h⟩
          simp only [sls_cons, sls_one, sls_nil] at h
          simp -dsimp [h, At]
          refine ⟨out', hol', ⟨hst', fun x hx hc => ?_⟩, hze', rfl⟩
          by_cases hxi : x = i
          · subst hxi; exact absurd hc hch
          · exact hkd' x (by omega) hc
      clear h
      rintro ⟨sl, hp1, bs⟩ ⟨out', hol', hst', hze', rfl, h⟩; simp only [sls_cons, sls_one] at h
      simp -dsimp [h, At, hw, hil, hPi, hXi, hTi]
      exact ⟨out', hol', hst', hze', rfl⟩
    · have hil' : ¬ (i : Int) < ps.length := by omega
      simp -dsimp [h, hil', At]
      exact ⟨out, hol, ⟨fun x hx => hst.1 x (by omega), fun x hx => hst.2 x (by omega)⟩, rfl⟩
  clear h
  rintro ⟨sl, hp, bs⟩ ⟨out, hol, hst, rfl, h⟩; simp only [sls_cons, sls_one] at h
  refine vc_cut (fun st => ∃ out : List Bool, out.length = N ∧ StP m vs m.vars.length out ∧ RowP m vs m.cons.length out ∧ At [(6, .own 0 1 0 N N)] [.mem false [] (rb out)] st) ?_ ?_
  · refine vc_cut (At [(1, X), (6, .own 0 1 0 N N), (83, T), (84, V.i ts.length), (85, V.i 0)] [.mem false [] (rb out)]) (by simp -dsimp [h, At, hT]) ?_
    try clear h
    rintro ⟨sl, hp, bs⟩ ⟨rfl, h⟩
    simp only [sls_cons, sls_one, sls_nil] at h
    refine vc_block_of (vc_upto 1 (by simp) ts.length (fun i st => ∃ out : List Bool, out.length = N ∧ StP m vs m.vars.length out ∧ RowP m vs i out ∧ At [(1, X), (6, .own 0 1 0 N N), (83, T), (84, V.i ts.length), (85, V.i i)] [.mem false [] (rb out)] st) ⟨out, hol, hst, (fun x hx => by omega), rfl, by simpa using h⟩ ?_)
    clear h hst hol out
    rintro i ⟨sl, hp0, bs⟩ hi ⟨out, hol, hst, hrow, rfl, h⟩
    simp only [sls_cons, sls_one] at h
    unfold order_Order_Assignment.b2
    by_cases hil : i < ts.length
    · have hil' : (i : Int) < ts.length := by omega
      have hic : i < m.cons.length := by omega
      have hw : IntKind.i64.wrap ((i : Int) + 1) = ((i + 1 : Nat) : Int) := by rw [wrap64] <;> omega
      have htb := hob.ts (tbO m i) (List.mem_map.2 ⟨i, List.mem_range.2 hic, rfl⟩)
      obtain ⟨t, ht'⟩ : ∃ t, t = tbO m i := ⟨_, rfl⟩
      have htg : ∀ hh, ts[i]'hh = t := fun hh => by rw [hTg i hic hh, ht']
      rw [← ht'] at htb
      have b1 := htb.below; have b2 := htb.rows
      have hcl : t.cells = [V.i t.below, vInts t.xs, vIntss t.rows] := rfl
      have hrl : (t.rows.length : Int) = w3 m i := by
        rw [ht']; unfold tbO w3
        by_cases hk : (cAt m i).kind = 8 <;> simp [hk]
      have hbe : t.rows ≠ [] → (cAt m i).kind = 8 ∧ t.below = tO m i ∧ t.xs = (cAt m i).xs ∧ t.rows = (cAt m i).rows := fun hne => by
        rw [ht'] at hne ⊢
        unfold tbO at hne ⊢
        by_cases hk : (cAt m i).kind = 8
        · rw [if_pos hk]; exact ⟨hk, rfl, rfl, rfl⟩
        · rw [if_neg hk] at hne; exact absurd rfl hne
      have q1 := t_B (m := m) (i := i); have q2 := t_N (m := m) hic
      refine vc_cut (At [(1, X), (6, .own 0 1 0 N N), (83, T), (84, V.i ts.length), (85, V.i i), (86, .bool true)] [.mem false [] (rb out)]) (by simp -dsimp [h, At, hil, hil']) ?_
      try clear h
      rintro ⟨sl, hp, bs⟩ ⟨rfl, h⟩
      simp only [sls_cons, sls_one, sls_nil] at h
      refine vc_cut (At [(1, X), (6, .own 0 1 0 N N), (83, T), (84, V.i ts.length), (85, V.i i)] [.mem false [] (rb out)]) (by simp -dsimp [h, At]) ?_
      try clear h
      rintro ⟨sl, hp, bs⟩ ⟨rfl, h⟩
      simp only [sls_cons, sls_one, sls_nil] at h
      refine vc_cut (fun st => ∃ out' : List Bool, out'.length = N ∧ StP m vs m.vars.length out' ∧ RowP m vs i out' ∧ RwP m vs i t.rows.length out' ∧ At [(1, X), (6, .own 0 1 0 N N), (83, T), (84, V.i ts.length), (85, V.i i)] [.mem false [] (rb out'), .mem false [] [t.cells]] st) ?_ ?_
      · refine vc_block_of ?_
        refine vc_cut (At [(1, X), (6, .own 0 1 0 N N), (13, .ptr 1 1 0 0), (83, T), (84, V.i ts.length), (85, V.i i)] [.mem false [] (rb out), .mem false [] [t.cells]]) (by simp -dsimp [h, At, hT, hil, hil', htg, hcl, vInts, vIntss]) ?_
        try clear h
        rintro ⟨sl, hp, bs⟩ ⟨rfl, h⟩
        simp only [sls_cons, sls_one, sls_nil] at h
        refine vc_cut (At [(1, X), (6, .own 0 1 0 N N), (13, .ptr 1 1 0 0), (83, T), (84, V.i ts.length), (85, V.i i), (91, V.i t.rows.length), (92, V.i 0)] [.mem false [] (rb out), .mem false [] [t.cells]]) (by simp -dsimp [h, At, hcl, vInts, vIntss]) ?_
        try clear h
        rintro ⟨sl, hp, bs⟩ ⟨rfl, h⟩
        simp only [sls_cons, sls_one, sls_nil] at h
        refine vc_block_of (vc_upto 2 (by simp) t.rows.length (fun r st => ∃ out' : List Bool, out'.length = N ∧ StP m vs m.vars.length out' ∧ RowP m vs i out' ∧ RwP m vs i r out' ∧ At [(1, X), (6, .own 0 1 0 N N), (13, .ptr 1 1 0 0), (83, T), (84, V.i ts.length), (85, V.i i), (91, V.i t.rows.length), (92, V.i r)] [.mem false [] (rb out'), .mem false [] [t.cells]] st) ⟨out, hol, hst, hrow, (fun _ x hx => by omega), rfl, by simpa using h⟩ ?_)
        clear h hst hrow hol out
        rintro r ⟨sl, hp1, bs⟩ hrr ⟨out, hol, hst, hrow, hrw, rfl, h⟩
        simp only [sls_cons, sls_one] at h
        unfold order_Order_Assignment.b3
        by_cases hrl2 : r < t.rows.length
        · have hrl' : (r : Int) < t.rows.length := by omega
          have hwr : IntKind.i64.wrap ((r : Int) + 1) = ((r + 1 : Nat) : Int) := by rw [wrap64] <;> omega
          obtain ⟨g1, g2, g3, g4⟩ := hbe (fun e => by rw [e] at hrl2; simp at hrl2)
          obtain ⟨t1, t2, t3, t4⟩ := tab_ok hr hic g1
          have hho := holdsT_spec t r vs hrl2 (by rw [g3, hn]; exact t1) (by
            have : t.rows.getD r [] = t.rows[r] := by simp [List.getD, hrl2]
            rw [this, g3]; exact t2 _ (by rw [← g4]; exact List.getElem_mem hrl2)) (by rw [g3]; omega)
          rw [← hX, hcl] at hho
          obtain ⟨b, hb⟩ : ∃ b, b = holdsT t r vs := ⟨_, rfl⟩
          rw [← hb] at hho
          obtain ⟨e, he⟩ := Int.eq_ofNat_of_zero_le (by omega : 0 ≤ t.below + r)
          have w4 : IntKind.i64.wrap (t.below + (r : Int)) = e := by rw [he, wrap64] <;> omega
          have w5 : IntKind.i64.wrap (e : Int) = e := by rw [wrap64] <;> omega
          have e1 : e < N := by omega
          have e2 : (e : Int) < N := by omega
          have rl : (rb out).length = N := by rw [rb_len]; exact hol
          have e3 : ∀ hh, (rb out)[e]'hh = [.bool (out[e]'(by omega))] := fun hh => rb_get hh
          simp -dsimp [h, hcl, hrl2, hrl', vInts, vIntss]
          refine gcall hho (by simp -dsimp [h, vInts, vIntss]) (by simp -dsimp [h, hXi, vInts, vIntss]) ?_
          simp -dsimp [h, hcl, w4, w5, he, e1, e2, rl, e3, At, hwr, hTi, hXi, rb_set, vInts, vIntss, hrl2]
          refine ⟨out.set e b, by simpa using hol, ⟨fun x hx k hk1 hk2 => ?_, fun x hx hc => ?_⟩, fun x hx hk8 y hy => ?_, fun _ y hy => ?_, rfl⟩
          · have s1 := s_lt hr (i := x)
            have s2 := s_A hr hx
            have s3 : w1 m x = (vAt m x).hi - (vAt m x).lo := rfl
            rw [List.getElem?_set_ne (by omega)]; exact hst.1 x hx k hk1 hk2
          · have s1 := k_B hr hx
            have s2 := k_A hr (i := x)
            have s4 : w2 m x = w1 m x + 1 := if_pos hc
            have s3 : w1 m x = (vAt m x).hi - (vAt m x).lo := rfl
            obtain ⟨s5, s6⟩ := hv x hx
            rw [List.getElem?_set_ne (by omega)]; exact hst.2 x hx hc
          · have s1 := t_B (m := m) (i := x)
            have s2 := t_t (m := m) hx
            have s3 : w3 m x = (cAt m x).rows.length := if_pos hk8
            rw [List.getElem?_set_ne (by omega)]; exact hrow x hx hk8 y hy
          · by_cases hyr : y = r
            · subst hyr
              have : (tO m i + (y : Int)).toNat = e := by omega
              rw [this, List.getElem?_set_self (by omega), hb, ht']
            · have s1 := t_B (m := m) (i := i)
              rw [List.getElem?_set_ne (by omega)]; exact hrw g1 y (by omega)
        · have hrl' : ¬ (r : Int) < t.rows.length := by omega
          have e : r = t.rows.length := by omega
          simp -dsimp [h, hrl', At]
          exact ⟨out, hol, hst, hrow, by rw [← e]; exact hrw, rfl⟩
      clear h hst hrow hol out
      rintro ⟨sl, hp1, bs⟩ ⟨out, hol, hst, hrow, hrw, rfl, h⟩; simp only [sls_cons, sls_one] at h
      simp -dsimp [h, At, hw, hil, hXi, hTi]
      refine ⟨out, hol, hst, fun x hx hk8 y hy => ?_, rfl⟩
      by_cases hxi : x = i
      · subst hxi
        have s3 : w3 m x = (cAt m x).rows.length := if_pos hk8
        exact hrw hk8 y (by omega)
      · exact hrow x (by omega) hk8 y hy
    · have hil' : ¬ (i : Int) < ts.length := by omega
      have e : i = m.cons.length := by omega
      simp -dsimp [h, hil', At]
      exact ⟨out, hol, hst, by rw [← e]; exact hrow, rfl⟩
  clear h hst hol out
  rintro ⟨sl, hp, bs⟩ ⟨out, hol, hst, hrow, rfl, h⟩; simp only [sls_one] at h
  have rl : (rb out).length = N := by rw [rb_len]; exact hol
  have ht : List.take N (rb out) = rb out := List.take_of_length_le (by omega)
  simp -dsimp [h, order_Order_Assignment.rs, rl, ht]
  exact ⟨out, rfl, hst.2, by omega, hst.1, fun i hi hk r hr' => hrow i hi hk r hr'⟩
end Go.Abs.G

namespace Go.Abs.G
open Go.Proofs
set_option linter.unusedVariables false
set_option linter.unusedSimpArgs false

theorem cloneI_raw (rows : List (List V)) (hb : (rows.length : Int) * 8 ≤ 140737488355328) (hren : ∀ f, rows.map (fun r => V.renL f r) = rows) : DC Try.prog slices_Clone_Lint_int.id [.view 1 rows] [] (fun r H => r = .own 0 1 0 rows.length rows.length ∧ H = [.mem false [] rows]) := by
  refine DC.picks (Q := fun r H => r = .own 0 1 0 rows.length rows.length ∧ ∃ E, H = .mem false [] rows :: E) ?_ ?_
  rotate_left
  · rintro r H ⟨rfl, E, rfl⟩
    exact ⟨[0], ⟨by simp, by simp, by simp, by simp⟩, by simp, by simp [V.ids], rfl, by simp [sub, hren]⟩
  refine DC.ownnil (Q := fun r H => (rows = [] ∧ r = .a (.slice none 0 0) ∧ H = []) ∨ (r = .own 0 1 0 rows.length rows.length ∧ ∃ E, H = .mem false [] rows :: E)) ?_ ?_
  rotate_left
  · rintro r H (⟨h, rfl, rfl⟩ | ⟨rfl, E, rfl⟩)
    · subst h; exact .inr ⟨1, .inl rfl, rfl, [], rfl⟩
    · exact .inl ⟨rfl, E, rfl⟩
  by_cases hr : rows = []
  · subst hr
    refine DC.view_nil ?_ fun ad c => ?_
    · refine DC.of slices_Clone_Lint_int.ok (by simp) ?_
      simp -dsimp [slices_Clone_Lint_int.ir, slices_Clone_Lint_int.rs]
    · refine DC.of slices_Clone_Lint_int.ok (by simp) ?_
      simp -dsimp [slices_Clone_Lint_int.ir, slices_Clone_Lint_int.rs]
  · refine DC.of slices_Clone_Lint_int.ok (by simp) ?_
    have hl : ¬ (rows.length : Int) = 0 := by
      have := List.length_pos_iff.2 hr
      omega
    simp -dsimp [slices_Clone_Lint_int.ir, slices_Clone_Lint_int.rs, hr, hl, hb]
theorem cloneI (l : List Int) (hb : (l.length : Int) * 8 ≤ 140737488355328) : DC Try.prog slices_Clone_Lint_int.id [vInts l] [] (fun r H => r = .own 0 1 0 l.length l.length ∧ H = [.mem false [] (ri l)]) := by
  have := cloneI_raw (ri l) (by rw [ri_len]; exact hb) fun f => ri_ren f l
  rw [ri_len] at this; exact this
/-- A script. -/
def SC (l : List Int) : O := .mem false [] [[vInts l]]
theorem SC_clo' (l : List Int) : (SC l).clo := ⟨rfl, fun f => by simp [SC, vInts], fun e => by cases e⟩
/-- The document's script. -/
def SR (l : List Int) (k : Nat) : O := .mem false [] [[vInts l, V.i k]]
theorem SR_clo' (l : List Int) (k : Nat) : (SR l k).clo := ⟨rfl, fun f => by simp [SR, vInts], fun e => by cases e⟩
section
variable (l : List Int) (k : Nat)
@[simp] theorem SC_clo : (SC l).clo = True := eq_true (SC_clo' l)
@[simp] theorem SC_isMem : (SC l).isMem = true := rfl
@[simp] theorem SC_refs : (SC l).refs = [] := rfl
@[simp] theorem SC_rows : (SC l).rows = [[vInts l]] := rfl
@[simp] theorem SC_tot (n : Nat) : (SC l).hasTot n = (1 = n) := rfl
@[simp] theorem SC_ren (f : Nat → Nat) : O.ren f (SC l) = SC l := (SC_clo' l).ren f
@[simp] theorem SC_nres : (SC l = .res) = False := eq_false (SC_clo' l).nres
@[simp] theorem SR_clo : (SR l k).clo = True := eq_true (SR_clo' l k)
@[simp] theorem SR_isMem : (SR l k).isMem = true := rfl
@[simp] theorem SR_refs : (SR l k).refs = [] := rfl
@[simp] theorem SR_rows : (SR l k).rows = [[vInts l, V.i k]] := rfl
@[simp] theorem SR_tot (n : Nat) : (SR l k).hasTot n = (1 = n) := rfl
@[simp] theorem SR_ren (f : Nat → Nat) : O.ren f (SR l k) = SR l k := (SR_clo' l k).ren f
@[simp] theorem SR_nres : (SR l k = .res) = False := eq_false (SR_clo' l k).nres
end
end Go.Abs.G


/- A call of a function value, as a step. -/
namespace Go.Abs
set_option linter.unusedVariables false
theorem gcallw {P : Program} {k : St → Prop} {st : St} {d : Option Nat} {f : FuncId} {fv : Operand} {xs : List Operand} {cs zs : List V} {r0 : V} (hf : st.ev fv = .fn (.func f) [] cs) (ok : okFunc P f = true) (hz : xs.map st.ev ++ cs = zs) (hi : V.idsL zs = []) (hc : Pf P f zs r0) (hk : k (st.put d r0)) : IvcF P (.callv d fv xs) k st := by
  show I.vc P (.callv d fv xs) k st
  simp only [I.vc, hf, List.nil_append, hz]
  exact ⟨ok, hi, DP.mono hc fun r hr => by subst hr; exact hk⟩
end Go.Abs

namespace Go.Abs.G
open Go.Proofs
set_option linter.unusedVariables false
set_option linter.unusedSimpArgs false

theorem cloneI_pf (l : List Int) (hb : (l.length : Int) * 8 ≤ 140737488355328) : Pf Try.prog slices_Clone_Lint_int.id [vInts l] (vInts l) := by
  refine DC.mono (cloneI l hb) fun r H ⟨hr, hH⟩ => ?_
  subst hr hH
  have : List.take l.length (ri l) = ri l := List.take_of_length_le (by rw [ri_len]; exact Nat.le_refl _)
  simp -dsimp [V.fzP, V.fz, ri_len, this, vInts]
  rfl

theorem indexI (l : List Int) (x : Int) (hl : l.length ≤ maxLen) : Pf Try.prog slices_Index_Lint_int.id [vInts l, V.i x] (V.i (firstAt (fun y => decide (x = y)) 0 l)) := by
  have hM : (maxLen : Int) ≤ 9223372036854775807 := by decide
  refine DC.of slices_Index_Lint_int.ok (by simp) ?_
  unfold slices_Index_Lint_int.ir
  obtain ⟨A, hA⟩ : ∃ A, A = vInts l := ⟨_, rfl⟩
  have hAi : A.ids = [] := by rw [hA]; rfl
  rw [← hA]
  refine vc_cut (At [(0, A), (1, V.i x)] []) (by simp -dsimp [At]) ?_
  try clear h
  rintro ⟨sl, hp, bs⟩ ⟨rfl, h⟩
  simp only [sls_cons, sls_one, sls_nil] at h
  refine vc_cut (fun st => firstAt (fun y => decide (x = y)) 0 l = -1 ∧ st.hp = []) ?_ ?_
  · refine vc_cut (At [(0, A), (1, V.i x), (7, V.i l.length), (8, V.i 0)] []) (by simp -dsimp [h, At, hA, vInts]) ?_
    try clear h
    rintro ⟨sl, hp, bs⟩ ⟨rfl, h⟩
    simp only [sls_cons, sls_one, sls_nil] at h
    refine vc_block_of (vc_upto 0 (by simp) l.length (fun i st => firstAt (fun y => decide (x = y)) 0 l = firstAt (fun y => decide (x = y)) i (l.drop i) ∧ At [(0, A), (1, V.i x), (7, V.i l.length), (8, V.i i)] [] st) ⟨rfl, rfl, by simpa using h⟩ ?_)
    clear h
    rintro i ⟨sl, hp, bs⟩ hi ⟨he, rfl, h⟩
    simp only [sls_cons, sls_one] at h
    unfold slices_Index_Lint_int.b0
    by_cases hil : i < l.length
    · have hil' : (i : Int) < l.length := by omega
      have hw : IntKind.i64.wrap ((i : Int) + 1) = ((i + 1 : Nat) : Int) := by rw [wrap64] <;> omega
      rw [firstAt_drop _ hil] at he
      obtain ⟨y, hy⟩ : ∃ y, y = l[i] := ⟨_, rfl⟩
      rw [← hy] at he
      by_cases hxy : x = y
      · rw [if_pos (by simp [hxy])] at he
        simp -dsimp [h, hil, hil', hA, vInts, ← hy, hxy, slices_Index_Lint_int.rs]
        rw [← he, hxy]
      · rw [if_neg (by simp [hxy])] at he
        simp -dsimp [h, hil, hil', hA, vInts, ← hy, hxy, At, hw]
        exact he
    · have hil' : ¬ (i : Int) < l.length := by omega
      have e : l.drop i = [] := List.drop_eq_nil_of_le (by omega)
      rw [e] at he
      simp -dsimp [h, hil']
      exact he
  · rintro ⟨sl, hp, bs⟩ ⟨he, rfl⟩
    simp -dsimp [slices_Index_Lint_int.rs, he]
theorem containsI (l : List Int) (x : Int) (hl : l.length ≤ maxLen) : Pf Try.prog slices_Contains_Lint_int.id [vInts l, V.i x] (.bool (decide (x ∈ l))) := by
  refine DC.of slices_Contains_Lint_int.ok (by simp) ?_
  unfold slices_Contains_Lint_int.ir
  have e : decide (0 ≤ firstAt (fun y => decide (x = y)) 0 l) = decide (x ∈ l) := by
    rw [firstAt_any]
    by_cases h : x ∈ l
    · rw [decide_eq_true h, List.any_eq_true]; exact ⟨x, h, by simp⟩
    · rw [decide_eq_false h, List.any_eq_false]
      intro y hy
      have : ¬ x = y := fun e => h (by rw [e]; exact hy)
      simp [this]
  simp -dsimp
  refine gcall (indexI l x hl) (by simp -dsimp) (by simp [vInts]) ?_
  simp -dsimp [slices_Contains_Lint_int.rs, e]

theorem index_con {f : FuncId} {cap : List V} {p : Con → Bool} {l : List Con} (hok : okFunc Try.prog f = true) (hids : V.idsL cap = []) (hg : ∀ t ∈ l, Pf Try.prog f (.agg t.cells :: cap) (.bool (p t))) (hl : l.length ≤ 100000000) :
    Pf Try.prog slices_IndexFunc_Lapi_Con_api_Con.id [vCons l, .fn (.func f) [] cap] (V.i (firstAt p 0 l)) := by
  refine DC.of slices_IndexFunc_Lapi_Con_api_Con.ok (by simp) ?_
  unfold slices_IndexFunc_Lapi_Con_api_Con.ir
  obtain ⟨A, hA⟩ : ∃ A, A = vCons l := ⟨_, rfl⟩
  have hAi : A.ids = [] := by rw [hA]; rfl
  rw [← hA]
  refine vc_cut (At [(0, A), (1, .fn (.func f) [] cap)] []) (by simp -dsimp [At]) ?_
  try clear h
  rintro ⟨sl, hp, bs⟩ ⟨rfl, h⟩
  simp only [sls_cons, sls_one, sls_nil] at h
  refine vc_cut (fun st => firstAt p 0 l = -1 ∧ st.hp = []) ?_ ?_
  · refine vc_cut (At [(0, A), (1, .fn (.func f) [] cap), (7, V.i l.length), (8, V.i 0)] []) (by simp -dsimp [h, At, hA, vCons]) ?_
    try clear h
    rintro ⟨sl, hp, bs⟩ ⟨rfl, h⟩
    simp only [sls_cons, sls_one, sls_nil] at h
    refine vc_block_of (vc_upto 0 (by simp) l.length (fun i st => firstAt p 0 l = firstAt p i (l.drop i) ∧ At [(0, A), (1, .fn (.func f) [] cap), (7, V.i l.length), (8, V.i i)] [] st) ⟨rfl, rfl, by simpa using h⟩ ?_)
    clear h
    rintro i ⟨sl, hp, bs⟩ hi ⟨he, rfl, h⟩
    simp only [sls_cons, sls_one] at h
    unfold slices_IndexFunc_Lapi_Con_api_Con.b0
    by_cases hil : i < l.length
    · have hil' : (i : Int) < l.length := by omega
      have hw : IntKind.i64.wrap ((i : Int) + 1) = ((i + 1 : Nat) : Int) := by rw [wrap64] <;> omega
      rw [firstAt_drop p hil] at he
      obtain ⟨t, ht⟩ : ∃ t, t = l[i] := ⟨_, rfl⟩
      have hgt := hg t (by rw [ht]; exact List.getElem_mem hil)
      have hcl : t.cells = [V.i t.kind, V.i t.op, vTerms t.terms, V.i t.k, V.i t.v, V.i t.x, V.i t.y, vInts t.xs, vInts t.table, vIntss t.rows] := rfl
      rw [← ht] at he
      rw [hcl] at hgt
      by_cases hpt : p t = true
      · rw [if_pos hpt] at he
        rw [hpt] at hgt
        simp -dsimp [h, hil, hil', hA, vCons, ← ht, hcl, vInts, vIntss, vTerms]
        refine gcallw (cs := cap) (by simp -dsimp [h]) hok (by simp -dsimp [h, vInts, vIntss, vTerms]; rfl) (by simp [hids, vInts, vIntss, vTerms]) (by simpa [vInts, vIntss, vTerms] using hgt) ?_
        simp -dsimp [h, slices_IndexFunc_Lapi_Con_api_Con.rs]
        exact he.symm
      · rw [if_neg hpt] at he
        have hpt : p t = false := by simpa using hpt
        rw [hpt] at hgt
        simp -dsimp [h, hil, hil', hA, vCons, ← ht, hcl, vInts, vIntss, vTerms]
        refine gcallw (cs := cap) (by simp -dsimp [h]) hok (by simp -dsimp [h, vInts, vIntss, vTerms]; rfl) (by simp [hids, vInts, vIntss, vTerms]) (by simpa [vInts, vIntss, vTerms] using hgt) ?_
        simp -dsimp [h, At, hw]
        exact ⟨hil, he, by simp [hA, vCons], by simp [hids]⟩
    · have hil' : ¬ (i : Int) < l.length := by omega
      have e : l.drop i = [] := List.drop_eq_nil_of_le (by omega)
      rw [e] at he
      simp -dsimp [h, hil']
      exact he
  · rintro ⟨sl, hp, bs⟩ ⟨he, rfl⟩
    simp -dsimp [slices_IndexFunc_Lapi_Con_api_Con.rs, he]
theorem contains_con {f : FuncId} {cap : List V} {p : Con → Bool} {l : List Con} (hok : okFunc Try.prog f = true) (hids : V.idsL cap = []) (hg : ∀ t ∈ l, Pf Try.prog f (.agg t.cells :: cap) (.bool (p t))) (hl : l.length ≤ 100000000) :
    Pf Try.prog slices_ContainsFunc_Lapi_Con_api_Con.id [vCons l, .fn (.func f) [] cap] (.bool (l.any p)) := by
  refine DC.of slices_ContainsFunc_Lapi_Con_api_Con.ok (by simp) ?_
  unfold slices_ContainsFunc_Lapi_Con_api_Con.ir
  have e := firstAt_any p l 0
  simp -dsimp
  refine gcall (index_con hok hids hg hl) (by simp -dsimp) (by simp [vCons, hids]) ?_
  simp -dsimp [slices_ContainsFunc_Lapi_Con_api_Con.rs, e]

theorem new1_spec (c : Con) (x : Int) (hc : c.xs.length ≤ maxLen) : Pf Try.prog order_New_1.id [.agg c.cells, .ref [V.i x] 0] (.bool ((decide (c.kind = 3) || decide (c.kind = 9)) && decide (x ∈ c.xs))) := by
  refine DC.of order_New_1.ok (by simp) ?_
  unfold order_New_1.ir
  obtain ⟨B, hB⟩ : ∃ B, B = O.mem false [] [c.cells] := ⟨_, rfl⟩
  have hcl : c.cells = [V.i c.kind, V.i c.op, vTerms c.terms, V.i c.k, V.i c.v, V.i c.x, V.i c.y, vInts c.xs, vInts c.table, vIntss c.rows] := rfl
  have hci := containsI c.xs x hc
  refine vc_cut (At [(1, .ref [V.i x] 0), (2, .ptr 0 1 0 0)] [B]) (by simp -dsimp [At, hB, hcl, vInts, vIntss, vTerms]) ?_
  try clear h
  rintro ⟨sl, hp, bs⟩ ⟨rfl, h⟩
  simp only [sls_cons, sls_one, sls_nil] at h
  by_cases h1 : c.kind = 3
  · simp -dsimp [h, hB, hcl, h1]
    refine gcall hci (by simp -dsimp [h]) (by simp [vInts]) ?_
    simp -dsimp [h, order_New_1.rs, h1]
  · by_cases h2 : c.kind = 9
    · simp -dsimp [h, hB, hcl, h1, h2]
      refine gcall hci (by simp -dsimp [h]) (by simp [vInts]) ?_
      simp -dsimp [h, order_New_1.rs, h2]
    · simp -dsimp [h, hB, hcl, h1, h2, order_New_1.rs]

theorem rows6_spec (l : List (List Int)) (hb : (l.length : Int) * 24 ≤ 140737488355328) (hr : ∀ r ∈ l, (r.length : Int) * 8 ≤ 140737488355328) : Pf Try.prog order_rows.id [vIntss l] (vIntss l) := by
  refine DC.of order_rows.ok (by simp) ?_
  unfold order_rows.ir
  obtain ⟨A, hA⟩ : ∃ A, A = vIntss l := ⟨_, rfl⟩
  have hAi : A.ids = [] := by rw [hA]; rfl
  let G : List Int → List V := fun r => [vInts r]
  have hG : ∀ r, G r = [vInts r] := fun _ => rfl
  rw [← hA]
  refine vc_cut (At [(0, A)] []) (by simp -dsimp [At]) ?_
  try clear h
  rintro ⟨sl, hp, bs⟩ ⟨rfl, h⟩
  simp only [sls_cons, sls_one, sls_nil] at h
  refine vc_cut (At [(0, A), (3, nilS)] []) (by simp -dsimp [h, At]) ?_
  try clear h
  rintro ⟨sl, hp, bs⟩ ⟨rfl, h⟩
  simp only [sls_cons, sls_one, sls_nil] at h
  refine vc_cut (At [(3, .own 0 1 0 l.length l.length)] [.mem false [] (l.map G)]) ?_ ?_
  · refine vc_cut (At [(3, .own 0 1 0 0 0), (6, A), (7, V.i l.length), (8, V.i 0)] [.mem false [] []]) ?_ ?_
    · simp -dsimp [h]
      refine ⟨_, Weak.ownnil 3 1 (by simp -dsimp [h]), ?_⟩
      simp -dsimp [h, At, hA, vIntss]
    try clear h
    rintro ⟨sl, hp, bs⟩ ⟨rfl, h⟩
    simp only [sls_cons, sls_one, sls_nil] at h
    refine vc_block_of (vc_upto 1 (by simp) l.length (fun i st => At [(3, .own 0 1 0 i i), (6, A), (7, V.i l.length), (8, V.i i)] [.mem false [] ((l.take i).map G)] st) ⟨rfl, by simpa using h⟩ ?_)
    clear h
    rintro i ⟨sl, hp, bs⟩ hi ⟨rfl, h⟩
    simp only [sls_cons, sls_one] at h
    unfold order_rows.b0
    by_cases hil : i < l.length
    · have hil' : (i : Int) < l.length := by omega
      have hw : IntKind.i64.wrap ((i : Int) + 1) = ((i + 1 : Nat) : Int) := by rw [wrap64] <;> omega
      have hsu : (l.take (i + 1)).map G = (l.take i).map G ++ [G l[i]] := by rw [List.take_succ_eq_append_getElem hil, List.map_append]; rfl
      obtain ⟨r, hrr⟩ : ∃ r, r = l[i] := ⟨_, rfl⟩
      have hc := cloneI_pf r (hr r (by rw [hrr]; exact List.getElem_mem hil))
      rw [← hrr] at hsu
      have rl : ((l.take i).map G).length = i := by simp; omega
      obtain ⟨C, hC⟩ : ∃ C, C = (l.take i).map G := ⟨_, rfl⟩
      rw [← hC] at rl hsu ⊢
      have hbb : ((i : Int) + 1) * 24 ≤ 140737488355328 := by omega
      simp -dsimp [h, hil, hil', hA, vIntss, ← hrr]
      refine gcall (hc) (by simp -dsimp [h, rl, hbb, At, hw, hil, vInts]) (by simp -dsimp [h, rl, hbb, At, hw, hil, vInts]) ?_
      simp -dsimp [h, rl, hbb, At, hw, hil, vInts]
      rw [← List.map_take, hsu, hG]; exact ⟨rfl, hA.symm⟩
    · have hil' : ¬ (i : Int) < l.length := by omega
      have e : i = l.length := by omega
      have e2 : l.take i = l := List.take_of_length_le (by omega)
      simp -dsimp [h, hil', At, e, e2, List.take_length]
  try clear h
  rintro ⟨sl, hp, bs⟩ ⟨rfl, h⟩
  simp only [sls_cons, sls_one, sls_nil] at h
  have ht : List.take l.length (l.map G) = l.map G := List.take_of_length_le (by simp)
  simp -dsimp [h, order_rows.rs, ht]
  rw [hA]; rfl
end Go.Abs.G

namespace Go.Abs.G
open Go.Proofs
set_option linter.unusedVariables false
set_option linter.unusedSimpArgs false

def p0O (m : Model) (i : Nat) : Pl := ⟨(vAt m i).lo, (vAt m i).hi, if (vAt m i).lo < (vAt m i).hi then sO m i + 1 else 0, 0⟩
def p1O (m : Model) (i j : Nat) : Pl := if j < i then plO m j else p0O m j
/-- The order as it is made: its object. -/
def OmO (np nt : Nat) (n : Int) : O := .mem false [2, 3] [[.own 2 4 0 np np, .own 3 3 0 nt nt, V.i n]]
theorem vget {m : Model} {i : Nat} (h : i < m.vars.length) : m.vars[i] = vAt m i := by simp [vAt, List.getD, h]
theorem cget {m : Model} {i : Nat} (h : i < m.cons.length) : m.cons[i] = cAt m i := by simp [cAt, List.getD, h]
theorem map_rs {α β : Type} (f : Nat → α) (g : α → β) (n : Nat) : ((List.range (n + 1)).map f).map g = ((List.range n).map f).map g ++ [g (f n)] := by rw [List.range_succ]; simp

section
variable {m : Model} (hr : Right m)
include hr
/-- The loop over the variables. -/
theorem new_b0 {B : O} (hB : B.refs = []) {vv : V} (hvv : vv = vVars m.vars) {Q : Ex → St → Prop} {st : St}
    (hst : At [(1, .ptr 0 1 0 0), (6, .ptr 1 1 0 0), (26, vv), (27, V.i m.vars.length), (28, V.i 0)] [B, OmO 0 0 0, .mem false [] [], .mem false [] []] st)
    (hQ : ∀ st' : St, At [(1, .ptr 0 1 0 0), (6, .ptr 1 1 0 0)] [B, OmO m.vars.length 0 (An m), .mem false [] (((List.range m.vars.length).map (p0O m)).map Pl.cells), .mem false [] []] st' → Q (.exit 0) st') :
    vc Try.prog (.loop order_New.b0) Q st := by
  obtain ⟨hh, h⟩ := hst
  have hvi : vv.ids = [] := by rw [hvv]; rfl
  have hnv := hr.nv
  refine vc_upto 4 (by rw [hh]; simp) m.vars.length (fun i st => ∃ C n, C = ((List.range i).map (p0O m)).map Pl.cells ∧ n = sO m i ∧ At [(1, .ptr 0 1 0 0), (6, .ptr 1 1 0 0), (26, vv), (27, V.i m.vars.length), (28, V.i i)] [B, OmO i 0 n, .mem false [] C, .mem false [] []] st) ⟨[], 0, rfl, rfl, hh, h⟩ ?_
  clear hh h
  rintro i ⟨sl, hp, bs⟩ hi ⟨C, n, hC, hn, rfl, h⟩
  simp only [sls_cons, sls_one] at h
  unfold order_New.b0
  by_cases hil : i < m.vars.length
  · have hil' : (i : Int) < m.vars.length := by omega
    have hw : IntKind.i64.wrap ((i : Int) + 1) = ((i + 1 : Nat) : Int) := by rw [wrap64] <;> omega
    have hv := v_ok hr hil
    have q1 := s_lt hr (i := i); have q2 := s_A hr hil; have q3 := An_le hr
    have hvg := vget hil
    obtain ⟨v, hvE⟩ : ∃ v, v = vAt m i := ⟨_, rfl⟩
    have hwd : w1 m i = v.hi - v.lo := by rw [hvE]; rfl
    have hp0 : p0O m i = ⟨v.lo, v.hi, if v.lo < v.hi then n + 1 else 0, 0⟩ := by rw [hn, hvE]; rfl
    have hvg2 : ∀ hh, m.vars[i]'hh = v := fun hh => by rw [hvE]; exact hvg
    rw [← hvE] at hv
    have b1 := hv.lo; have b2 := hv.hi; have b3 := hv.le; have b4 := hv.dom
    have rl : C.length = i := by rw [hC]; simp
    have hsu := map_rs (p0O m) Pl.cells i
    rw [← hC, hp0] at hsu
    have hcl : v.cells = [.str v.name, V.i v.lo, V.i v.hi] := rfl
    have hbb : ((i : Int) + 1) * 32 ≤ 140737488355328 := by omega
    have w1' : IntKind.i64.wrap (n + 1) = n + 1 := wrap64 (by omega) (by omega)
    have w2' : IntKind.i64.wrap (v.hi - v.lo) = v.hi - v.lo := wrap64 (by omega) (by omega)
    have w3' : IntKind.i64.wrap (n + (v.hi - v.lo)) = n + (v.hi - v.lo) := wrap64 (by omega) (by omega)
    have hnn : sO m (i + 1) = n + (v.hi - v.lo) := by rw [hn, ← hwd]; rfl
    unfold OmO
    by_cases hlt : v.lo < v.hi
    · rw [if_pos hlt] at hsu
      simp -dsimp [h, hil, hil', hvv, vVars, hvg2, hcl, hlt, w1', w2', w3', At, hw, rl, hbb, hB, hvi, hsu, Pl.cells]
      exact hnn.symm
    · rw [if_neg hlt] at hsu
      have : v.hi - v.lo = 0 := by omega
      rw [this, Int.add_zero] at hnn
      simp -dsimp [h, hil, hil', hvv, vVars, hvg2, hcl, hlt, At, hw, rl, hbb, hB, hvi, hsu, Pl.cells]
      exact hnn.symm
  · have hil' : ¬ (i : Int) < m.vars.length := by omega
    have e : i = m.vars.length := by omega
    simp -dsimp [h, hil']
    refine hQ _ ?_
    rw [hC, hn]
    simp -dsimp [h, At, e]
    rfl

omit hr in
theorem rows_set (f g : Nat → Pl) {n i : Nat} (hi : i < n) : (((List.range n).map f).map Pl.cells).set i (g i).cells = ((List.range n).map fun j => if j = i then g j else f j).map Pl.cells := by
  refine List.ext_getElem? fun j => ?_
  by_cases hj : i = j
  · subst hj
    rw [List.getElem?_set_self (by simpa using hi)]
    simp [hi]
  · rw [List.getElem?_set_ne hj]
    by_cases hjn : j < n
    · simp [hjn, Ne.symm hj]
    · rw [List.getElem?_eq_none (by simp; omega), List.getElem?_eq_none (by simp; omega)]
omit hr in
theorem p1_succ (i : Nat) : (fun j => if j = i then plO m j else p1O m i j) = p1O m (i + 1) := by
  funext j
  unfold p1O
  by_cases h : j = i
  · rw [if_pos h, if_pos (by omega)]
  · rw [if_neg h]
    by_cases h2 : j < i
    · rw [if_pos h2, if_pos (by omega)]
    · rw [if_neg h2, if_neg (by omega)]

/-- The loop that gives kinds their numbers. -/
theorem new_b1 (hcx : ∀ c ∈ m.cons, c.xs.length ≤ maxLen) {B : O} (hB : B = .mem false [] [m.cells]) {Q : Ex → St → Prop} {st : St}
    (hst : At [(1, .ptr 0 1 0 0), (6, .ptr 1 1 0 0), (75, V.i m.vars.length), (76, V.i 0)] [B, OmO m.vars.length 0 (An m), .mem false [] (((List.range m.vars.length).map (p0O m)).map Pl.cells), .mem false [] []] st)
    (hQ : ∀ st' : St, At [(1, .ptr 0 1 0 0), (6, .ptr 1 1 0 0)] [B, OmO m.vars.length 0 (Bn m), .mem false [] (((List.range m.vars.length).map (plO m)).map Pl.cells), .mem false [] []] st' → Q (.exit 2) st') :
    vc Try.prog (.loop order_New.b1) Q st := by
  obtain ⟨hh, h⟩ := hst
  have hBr : B.refs = [] := by rw [hB]; rfl
  have hnv := hr.nv
  have hnc := hr.nc
  obtain ⟨N, hN⟩ : ∃ N, N = m.vars.length := ⟨_, rfl⟩
  rw [← hN] at hh h hQ hnv
  refine vc_upto 4 (by rw [hh]; simp) N (fun i st => ∃ C n, C = ((List.range N).map (p1O m i)).map Pl.cells ∧ n = kO m i ∧ At [(1, .ptr 0 1 0 0), (6, .ptr 1 1 0 0), (75, V.i N), (76, V.i i)] [B, OmO N 0 n, .mem false [] C, .mem false [] []] st) ⟨_, An m, rfl, by simp [kO, psum], by rw [hh]; rfl, h⟩ ?_
  clear hh h
  rintro i ⟨sl, hp, bs⟩ hi ⟨C, n, hC, hn, rfl, h⟩
  simp only [sls_cons, sls_one] at h
  unfold order_New.b1
  by_cases hil : i < N
  · have hil' : (i : Int) < N := by omega
    have hiv : i < m.vars.length := by omega
    have hw : IntKind.i64.wrap ((i : Int) + 1) = ((i + 1 : Nat) : Int) := by rw [wrap64] <;> omega
    have hv := v_ok hr hiv
    have q1 := A_0 hr; have q2 := An_le hr; have q3 := k_A hr (i := i); have q4 := k_B hr hiv; have q5 := Bn_le hr; have q6 := w1_0 hr i
    obtain ⟨v, hvE⟩ : ∃ v, v = vAt m i := ⟨_, rfl⟩
    have hwd : w1 m i = v.hi - v.lo := by rw [hvE]; rfl
    rw [← hvE] at hv
    have b1 := hv.lo; have b2 := hv.hi; have b3 := hv.le; have b4 := hv.dom
    have rl : C.length = N := by rw [hC]; simp
    have hfn := contains_con (f := order_New_1.id) (cap := [.ref [V.i i] 0]) (p := fun c => (decide (c.kind = 3) || decide (c.kind = 9)) && decide ((i : Int) ∈ c.xs)) (l := m.cons) (by simp) (by simp [V.idsL, V.ids]) (fun c hc => new1_spec c i (hcx c hc)) (by omega)
    have hch : (m.cons.any fun c => (decide (c.kind = 3) || decide (c.kind = 9)) && decide ((i : Int) ∈ c.xs)) = chosen m i := rfl
    rw [hch] at hfn
    have hset := rows_set (p1O m i) (plO m) (n := N) (i := i) hil
    rw [← hC, p1_succ] at hset
    have hst' : sO m i + 1 = sO m i + 1 := rfl
    have hk1 : kO m (i + 1) = n + w2 m i := by rw [hn]; show An m + (psum (w2 m) i + w2 m i) = An m + psum (w2 m) i + w2 m i; omega
    have hCi : ∀ hh, C[i]'hh = [V.i v.lo, V.i v.hi, V.i (if v.lo < v.hi then sO m i + 1 else 0), V.i 0] := fun hh => by
      simp only [hC, List.getElem_map, List.getElem_range, p1O, Nat.lt_irrefl, if_neg, p0O, Pl.cells, ← hvE, not_false_eq_true]
    simp only [vInts, vCons] at hfn
    unfold OmO
    cases hc : chosen m i
    · have e2 : w2 m i = 0 := by unfold w2; rw [hc]; rfl
      have e3 : p1O m (i + 1) = p1O m i := by
        funext j
        unfold p1O
        by_cases hj : j < i
        · rw [if_pos hj, if_pos (by omega)]
        · by_cases hj2 : j = i
          · subst hj2; rw [if_pos (by omega), if_neg (by omega)]; unfold plO p0O; rw [hc]; rfl
          · rw [if_neg hj, if_neg (by omega)]
      rw [hc] at hfn
      simp -dsimp [h, hil, hil', hB, Model.cells, vCons]
      refine gcallb hfn (by simp -dsimp [h, V.fzL, V.fz]) (by simp -dsimp [h, V.fzPL, V.fzP]) (by simp) rfl ?_
      simp -dsimp [h, At, hw, hil]
      rw [e3, hk1, e2, Int.add_zero]
      exact ⟨by simp [hB, Model.cells, vCons], rfl, by rw [hC]; simp⟩
    · have e2 : w2 m i = w1 m i + 1 := by unfold w2; rw [hc]; rfl
      have w1' : IntKind.i64.wrap (n + 1) = n + 1 := wrap64 (by omega) (by omega)
      have w2' : IntKind.i64.wrap (v.hi - v.lo) = v.hi - v.lo := wrap64 (by omega) (by omega)
      have w3' : IntKind.i64.wrap (v.hi - v.lo + 1) = v.hi - v.lo + 1 := wrap64 (by omega) (by omega)
      have w4' : IntKind.i64.wrap (n + (v.hi - v.lo + 1)) = n + (v.hi - v.lo + 1) := wrap64 (by omega) (by omega)
      have hpl : (plO m i).cells = [V.i v.lo, V.i v.hi, V.i (if v.lo < v.hi then sO m i + 1 else 0), V.i (n + 1)] := by
        simp only [plO, Pl.cells, ← hvE, hc, if_pos, hn]
      rw [hpl] at hset
      rw [hc] at hfn
      obtain ⟨z, hz⟩ : ∃ z, z = (if v.lo < v.hi then sO m i + 1 else 0) := ⟨_, rfl⟩
      rw [← hz] at hCi hset hpl
      have hpc : (p1O m (i + 1) i).cells = [V.i v.lo, V.i v.hi, V.i z, V.i (n + 1)] := by rw [← hpl]; unfold p1O; rw [if_pos (by omega)]
      have hk2 : n + (v.hi - v.lo + 1) = kO m (i + 1) := by rw [hk1, e2, hwd]
      simp -dsimp [h, hil, hil', hB, Model.cells, vCons]
      refine gcallb hfn (by simp -dsimp [h, V.fzL, V.fz]) (by simp -dsimp [h, V.fzPL, V.fzP]) (by simp) rfl ?_
      simp -dsimp [h, hil, hil', rl, hCi, w1', w2', w3', w4', At, hw, hset, hpc, hk2]
      exact ⟨by simp [hB, Model.cells, vCons], wrap64 (by omega) (by omega)⟩
  · have hil' : ¬ (i : Int) < N := by omega
    have e : i = N := by omega
    simp -dsimp [h, hil']
    refine hQ _ ?_
    have e4 : (List.range N).map (p1O m N) = (List.range N).map (plO m) := List.map_congr_left fun j hj => by unfold p1O; rw [if_pos (List.mem_range.1 hj)]
    rw [hC, hn, e, e4]
    simp -dsimp [h, At]
    rw [hN]; rfl

omit hr in
theorem flat1 {row : List V} (h : V.idsL row = []) : ∀ (i' : Nat) (row' : List V), [row][i']? = some row' → ∀ (j' : Nat) (y : V), row'[j']? = some y → ∀ k ∈ y.ids, k ∈ ([] : List Nat) := by
  intro i' row' h1 j' y h2 k hk
  have e : row' = row := by
    cases i' with
    | zero => simpa using h1.symm
    | succ n => simp at h1
  subst e
  have : k ∈ V.idsL row' := by
    clear h h1
    induction row' generalizing j' with
    | nil => simp at h2
    | cons a l ih =>
      simp only [V.idsL, List.mem_append]
      cases j' with
      | zero => simp at h2; subst h2; exact .inl hk
      | succ j => exact .inr (ih _ (by simpa using h2))
  rw [h] at this; exact this
omit hr in
theorem weak_tb1 {st : St} (id : Nat) (h : st.hp[id]? = some (.mem false [] [[V.i (-1), nilS, nilS]])) : Weak st { st with hp := st.hp.set id (.mem false [] [[V.i (-1), vInts [], nilS]]) } :=
  Weak.cellsub (i := 0) (j := 1) (refs' := []) (row := [V.i (-1), nilS, nilS]) (x := nilS) (z := vInts []) h rfl rfl (V.sub.nil 1) rfl fun i' row' h1 j' y h2 => .inr (flat1 rfl i' row' h1 j' y h2)
omit hr in
theorem weak_tb2 {st : St} (id : Nat) (h : st.hp[id]? = some (.mem false [] [[V.i (-1), vInts [], nilS]])) : Weak st { st with hp := st.hp.set id (.mem false [] [[V.i (-1), vInts [], vIntss []]]) } :=
  Weak.cellsub (i := 0) (j := 2) (refs' := []) (row := [V.i (-1), vInts [], nilS]) (x := nilS) (z := vIntss []) h rfl rfl (V.sub.nil 1) rfl fun i' row' h1 j' y h2 => .inr (flat1 rfl i' row' h1 j' y h2)

/-- The loop over the constraints. -/
theorem new_b2 (hz : zModel m) {B : O} (hB : B.refs = []) {cc : V} (hcc : cc = vCons m.cons) {R2 : List (List V)} {Q : Ex → St → Prop} {st : St}
    (hst : At [(6, .ptr 1 1 0 0), (116, cc), (117, V.i m.cons.length), (118, V.i 0)] [B, OmO m.vars.length 0 (Bn m), .mem false [] R2, .mem false [] []] st)
    (hQ : ∀ st' : St, At [(6, .ptr 1 1 0 0)] [B, OmO m.vars.length m.cons.length (Nn m), .mem false [] R2, .mem false [] (((List.range m.cons.length).map (tbO m)).map Tb.cells)] st' → Q (.exit 4) st') :
    vc Try.prog (.loop order_New.b2) Q st := by
  obtain ⟨hh, h⟩ := hst
  have hci : cc.ids = [] := by rw [hcc]; rfl
  have hnv := hr.nv
  have hnc := hr.nc
  have hS : (maxS : Int) = 17592186044416 := rfl
  obtain ⟨N, hN⟩ : ∃ N, N = m.vars.length := ⟨_, rfl⟩
  rw [← hN] at hh hQ hnv
  refine vc_upto 4 (by rw [hh]; simp) m.cons.length (fun i st => ∃ C n, C = ((List.range i).map (tbO m)).map Tb.cells ∧ n = tO m i ∧ At [(6, .ptr 1 1 0 0), (116, cc), (117, V.i m.cons.length), (118, V.i i)] [B, OmO N i n, .mem false [] R2, .mem false [] C] st) ⟨[], Bn m, rfl, by simp [tO, psum], hh, h⟩ ?_
  clear hh h
  rintro i ⟨sl, hp, bs⟩ hi ⟨C, n, hC, hn, rfl, h⟩
  simp only [sls_cons, sls_one] at h
  unfold order_New.b2
  by_cases hil : i < m.cons.length
  · have hil' : (i : Int) < m.cons.length := by omega
    have hw : IntKind.i64.wrap ((i : Int) + 1) = ((i + 1 : Nat) : Int) := by rw [wrap64] <;> omega
    have q1 := t_B (m := m) (i := i); have q2 := t_N (m := m) hil; have q3 := Nn_le hr; have q4 := A_B hr; have q5 := A_0 hr; have q6 := w3_0 (m := m) i
    have hcg := cget hil
    obtain ⟨c, hcE⟩ : ∃ c, c = cAt m i := ⟨_, rfl⟩
    have hcg2 : ∀ hh, m.cons[i]'hh = c := fun hh => by rw [hcE]; exact hcg
    have hzc : zCon c := by rw [← hcg2 hil]; exact hz.2.2.2.2.2 _ (List.getElem_mem hil)
    obtain ⟨z0, z1, z2, z3, z4, z5⟩ := hzc
    have rl : C.length = i := by rw [hC]; simp
    have hsu := map_rs (tbO m) Tb.cells i
    rw [← hC] at hsu
    have hcl : c.cells = [V.i c.kind, V.i c.op, vTerms c.terms, V.i c.k, V.i c.v, V.i c.x, V.i c.y, vInts c.xs, vInts c.table, vIntss c.rows] := rfl
    have hbb : ((i : Int) + 1) * 56 ≤ 140737488355328 := by omega
    have ht1 : tO m (i + 1) = n + w3 m i := by rw [hn]; show Bn m + (psum (w3 m) i + w3 m i) = Bn m + psum (w3 m) i + w3 m i; omega
    unfold OmO
    by_cases hk : c.kind = 8
    · have e2 : w3 m i = c.rows.length := by unfold w3; rw [← hcE, if_pos hk]
      obtain ⟨t1, t2, t3, t4⟩ := tab_ok hr hil (by rw [← hcE]; exact hk)
      rw [← hcE] at t1 t2 t3 t4
      have hc1 := cloneI_pf c.xs (by omega)
      have hc2 := rows6_spec c.rows (by omega) (fun r hrm => by have := t2 r hrm; omega)
      simp only [vIntss, vInts] at hc1 hc2
      have w1'' : IntKind.i64.wrap (n + (c.rows.length : Int)) = n + c.rows.length := wrap64 (by omega) (by omega)
      have htb : (tbO m i).cells = [V.i n, vInts c.xs, vIntss c.rows] := by unfold tbO; rw [← hcE, if_pos hk, hn]; rfl
      rw [htb] at hsu
      simp only [vIntss, vInts] at hsu
      simp -dsimp [h, hil, hil', hcc, vCons, hcg2, hcl, vInts, vIntss, vTerms]
      refine ⟨_, weak_tb1 5 rfl, ?_⟩
      simp -dsimp [h]
      refine ⟨_, weak_tb2 5 (by simp [vInts]), ?_⟩
      simp -dsimp [h, hk, vInts, vIntss]
      refine gcall hc1 (by simp -dsimp [h]) (by simp) ?_
      simp -dsimp [h]
      refine gcall hc2 (by simp -dsimp [h]) (by simp) ?_
      simp -dsimp [h, w1'', rl, hbb, At, hw, hil, hB, hsu]
      exact ⟨by rw [ht1, e2], by rw [hcc]; rfl⟩
    · have e2 : w3 m i = 0 := by unfold w3; rw [← hcE, if_neg hk]
      have htb : (tbO m i).cells = [V.i (-1), vInts [], vIntss []] := by unfold tbO; rw [← hcE, if_neg hk]; rfl
      rw [htb] at hsu
      simp only [vIntss, vInts, List.map_nil] at hsu
      simp -dsimp [h, hil, hil', hcc, vCons, hcg2, hcl, vInts, vIntss, vTerms]
      refine ⟨_, weak_tb1 5 rfl, ?_⟩
      simp -dsimp [h]
      refine ⟨_, weak_tb2 5 (by simp [vInts]), ?_⟩
      simp -dsimp [h, hk, vInts, vIntss, rl, hbb, At, hw, hil, hB, hsu]
      exact ⟨by rw [ht1, e2, Int.add_zero], by rw [hcc]; rfl⟩
  · have hil' : ¬ (i : Int) < m.cons.length := by omega
    have e : i = m.cons.length := by omega
    simp -dsimp [h, hil']
    refine hQ _ ?_
    rw [hC, hn]
    simp -dsimp [h, At, e]
    rfl
end

theorem new6_spec (m : Model) (hz : zModel m) : DP Try.prog order_New.id [.agg m.cells] (fun r => (Right m ∧ r = .tup [vOd (orderOf m), V.i 0]) ∨ (¬ Right m ∧ ∃ e, e ≠ 0 ∧ r = .tup [.a (.pointer none), V.i e])) := by
  refine DC.of order_New.ok (by simp) ?_
  unfold order_New.ir
  obtain ⟨B, hB⟩ : ∃ B, B = O.mem false [] [m.cells] := ⟨_, rfl⟩
  have hBr : B.refs = [] := by rw [hB]; rfl
  have hch := check_spec m hz.1
  have hrb : Right m ↔ (checkB m).2 = 0 := by rw [← right_iff]; simp [rightB]
  simp only [Model.cells, vVars, vCons, vTerms] at hch
  refine vc_cut (At [(1, .ptr 0 1 0 0)] [B]) (by simp -dsimp [At, hB, Model.cells, vVars, vCons, vTerms]) ?_
  try clear h
  rintro ⟨sl, hp, bs⟩ ⟨rfl, h⟩
  simp only [sls_cons, sls_one, sls_nil] at h
  refine vc_cut (fun st => Right m ∧ At [(1, .ptr 0 1 0 0)] [B] st) ?_ ?_
  · simp -dsimp [h, hB, Model.cells, vVars, vCons, vTerms]
    refine gcall hch (by simp -dsimp [h]) (by simp) ?_
    by_cases he : (checkB m).2 = 0
    · simp -dsimp [h, he, At, hB, Model.cells, vVars, vCons, vTerms]
      exact hrb.2 he
    · have hnr : ¬ Right m := fun e => he (hrb.1 e)
      simp -dsimp [h, he, order_New.rs, hnr]
  try clear h
  rintro ⟨sl, hp, bs⟩ ⟨hr, rfl, h⟩
  simp only [sls_cons, sls_one, sls_nil] at h
  have hnv := hr.nv
  have hnc := hr.nc
  refine vc_cut (At [(1, .ptr 0 1 0 0), (6, .ptr 1 1 0 0)] [B, .mem false [] [[nilS, nilS, V.i 0]]]) (by simp -dsimp [h, At]) ?_
  try clear h
  rintro ⟨sl, hp, bs⟩ ⟨rfl, h⟩
  simp only [sls_cons, sls_one, sls_nil] at h
  refine vc_cut (At [(1, .ptr 0 1 0 0), (6, .ptr 1 1 0 0)] [B, OmO m.vars.length 0 (An m), .mem false [] (((List.range m.vars.length).map (p0O m)).map Pl.cells), .mem false [] []]) ?_ ?_
  · refine vc_cut (At [(1, .ptr 0 1 0 0), (6, .ptr 1 1 0 0), (26, vVars m.vars), (27, V.i m.vars.length), (28, V.i 0)] [B, OmO 0 0 0, .mem false [] [], .mem false [] []]) ?_ ?_
    · simp -dsimp [h]
      refine ⟨_, Weak.nilc 1 0 0 4 rfl rfl rfl (flat1 rfl), ?_⟩
      simp -dsimp [h]
      refine ⟨_, Weak.nilc 1 0 1 3 rfl rfl rfl (fun i' row' h1 j' y h2 k hk => ?_), ?_⟩
      · have e : row' = [V.own 2 4 0 0 0, nilS, V.i 0] := by
          cases i' with
          | zero => simpa using h1.symm
          | succ n => simp at h1
        subst e
        match j', h2 with
        | 0, h2 => simp at h2; subst h2; simpa [V.ids] using hk
        | 1, h2 => simp at h2; subst h2; simp [V.ids] at hk
        | 2, h2 => simp at h2; subst h2; simp [V.ids] at hk
        | n + 3, h2 => simp at h2
      simp -dsimp [h, hB, Model.cells, vVars, vCons, vTerms, OmO, At]
    rintro st' h'
    exact vc_block_of (new_b0 hr hBr rfl h' fun st2 h2 => h2)
  try clear h
  rintro ⟨sl, hp, bs⟩ ⟨rfl, h⟩
  simp only [sls_cons, sls_one, sls_nil] at h
  refine vc_cut (At [(1, .ptr 0 1 0 0), (6, .ptr 1 1 0 0)] [B, OmO m.vars.length 0 (Bn m), .mem false [] (((List.range m.vars.length).map (plO m)).map Pl.cells), .mem false [] []]) ?_ ?_
  · refine vc_cut (At [(1, .ptr 0 1 0 0), (6, .ptr 1 1 0 0), (75, V.i m.vars.length), (76, V.i 0)] [B, OmO m.vars.length 0 (An m), .mem false [] (((List.range m.vars.length).map (p0O m)).map Pl.cells), .mem false [] []]) ?_ ?_
    · simp -dsimp [h, OmO, At]
    rintro st' h'
    refine vc_block_of (new_b1 hr (fun c hc => ?_) hB h' fun st2 h2 => h2)
    exact (hz.1.2.1.2 c hc).2.2.2.2.2.2.2.1.1
  try clear h
  rintro ⟨sl, hp, bs⟩ ⟨rfl, h⟩
  simp only [sls_cons, sls_one, sls_nil] at h
  refine vc_cut (At [(6, .ptr 1 1 0 0)] [B, OmO m.vars.length m.cons.length (Nn m), .mem false [] (((List.range m.vars.length).map (plO m)).map Pl.cells), .mem false [] (((List.range m.cons.length).map (tbO m)).map Tb.cells)]) ?_ ?_
  · refine vc_cut (At [(6, .ptr 1 1 0 0), (116, vCons m.cons), (117, V.i m.cons.length), (118, V.i 0)] [B, OmO m.vars.length 0 (Bn m), .mem false [] (((List.range m.vars.length).map (plO m)).map Pl.cells), .mem false [] []]) ?_ ?_
    · simp -dsimp [h, OmO, At, hB, Model.cells, vVars, vCons, vTerms]
    rintro st' h'
    exact vc_block_of (new_b2 hr hz hBr rfl h' fun st2 h2 => h2)
  try clear h
  rintro ⟨sl, hp, bs⟩ ⟨rfl, h⟩
  simp only [sls_cons, sls_one, sls_nil] at h
  obtain ⟨R2, hR2⟩ : ∃ R2, R2 = ((List.range m.vars.length).map (plO m)).map Pl.cells := ⟨_, rfl⟩
  obtain ⟨R3, hR3⟩ : ∃ R3, R3 = ((List.range m.cons.length).map (tbO m)).map Tb.cells := ⟨_, rfl⟩
  have l2 : R2.length = m.vars.length := by rw [hR2]; simp
  have l3 : R3.length = m.cons.length := by rw [hR3]; simp
  have hO : vOd (orderOf m) = .ref [.view 4 R2, .view 3 R3, V.i (Nn m)] 0 := by rw [hR2, hR3]; rfl
  rw [hO]
  rw [← hR2, ← hR3]
  have t2 : List.take m.vars.length R2 = R2 := List.take_of_length_le (by omega)
  have t3 : List.take m.cons.length R3 = R3 := List.take_of_length_le (by omega)
  unfold OmO
  simp -dsimp [h]
  refine ⟨_, Weak.frzc (id := 1) (i := 0) (j := 0) (refs := [2, 3]) (refs' := [3]) (rows := [[.own 2 4 0 m.vars.length m.vars.length, .own 3 3 0 m.cons.length m.cons.length, V.i (Nn m)]]) (row := [.own 2 4 0 m.vars.length m.vars.length, .own 3 3 0 m.cons.length m.cons.length, V.i (Nn m)]) (x := .own 2 4 0 m.vars.length m.vars.length) rfl rfl rfl (by simp [l2]) (by simp) (fun i' row' h1 j' y h2 => ?_), ?_⟩
  · have e : row' = [.own 2 4 0 m.vars.length m.vars.length, .own 3 3 0 m.cons.length m.cons.length, V.i (Nn m)] ∧ i' = 0 := by
      cases i' with
      | zero => exact ⟨by simpa using h1.symm, rfl⟩
      | succ n => simp at h1
    obtain ⟨e, e0⟩ := e
    subst e e0
    match j', h2 with
    | 0, h2 => exact .inl ⟨rfl, rfl⟩
    | 1, h2 => simp at h2; subst h2; exact .inr fun k hk => by simpa [V.ids] using hk
    | 2, h2 => simp at h2; subst h2; exact .inr fun k hk => by simp [V.ids] at hk
    | n + 3, h2 => simp at h2
  simp -dsimp [h, t2, l2]
  refine ⟨_, Weak.frzc (id := 1) (i := 0) (j := 1) (refs := [3]) (refs' := []) (rows := [[.view 4 R2, .own 3 3 0 m.cons.length m.cons.length, V.i (Nn m)]]) (row := [.view 4 R2, .own 3 3 0 m.cons.length m.cons.length, V.i (Nn m)]) (x := .own 3 3 0 m.cons.length m.cons.length) rfl rfl rfl (by simp [l3]) (by simp) (fun i' row' h1 j' y h2 => ?_), ?_⟩
  · have e : row' = [.view 4 R2, .own 3 3 0 m.cons.length m.cons.length, V.i (Nn m)] ∧ i' = 0 := by
      cases i' with
      | zero => exact ⟨by simpa using h1.symm, rfl⟩
      | succ n => simp at h1
    obtain ⟨e, e0⟩ := e
    subst e e0
    match j', h2 with
    | 0, h2 => simp at h2; subst h2; exact .inr fun k hk => by simp [V.ids] at hk
    | 1, h2 => exact .inl ⟨rfl, rfl⟩
    | 2, h2 => simp at h2; subst h2; exact .inr fun k hk => by simp [V.ids] at hk
    | n + 3, h2 => simp at h2
  simp -dsimp [h, t3, l3, order_New.rs]
  exact hr
end Go.Abs.G

namespace Go.Abs.G
open Go.Proofs
set_option linter.unusedVariables false
set_option linter.unusedSimpArgs false

def isR (d : List (List Int)) (x : Int) : Bool := decide (0 ≤ x) && decide (x < d.length)
def rowR (d : List (List Int)) (x : Int) : List Int := if isR d x then (d[x.toNat]?).getD [] else []
structure DOk (d : List (List Int)) : Prop where
  n : d.length ≤ 64
  l : ∀ l ∈ d, 1 ≤ l.length ∧ l.length ≤ 64
structure ROk (d : List (List Int)) (ms : List (List (List Int))) : Prop where
  d : DOk d
  k : ms.length ≤ 1000000
  m : ∀ e ∈ ms, DOk e

section
variable {d : List (List Int)} {ms : List (List (List Int))} {M : List (List V)}

end
end Go.Abs.G



namespace Go.Abs.G
open Go.Proofs
set_option linter.unusedVariables false
set_option linter.unusedSimpArgs false

section
variable {d : List (List Int)} {D M : List (List V)}

end
end Go.Abs.G



namespace Go.Abs.G
open Go.Proofs
set_option linter.unusedVariables false
set_option linter.unusedSimpArgs false

def leftR (k v : Int) (l : List Int) : List Int := l.filter fun y => !goesB k v y
def cutR (d : List (List Int)) (k x v : Int) : List (List Int) × Bool × Bool :=
  if isR d x = false then (d, false, true)
  else if leftR k v (rowR d x) = [] then (d, false, false)
  else (d.set x.toNat (leftR k v (rowR d x)), decide ((leftR k v (rowR d x)).length < (rowR d x).length), true)

theorem leftR_len (k v : Int) (l : List Int) : (leftR k v l).length ≤ l.length := List.length_filter_le _ _
section
variable {d : List (List Int)} {M : List (List V)}

end
end Go.Abs.G



namespace Go.Abs.G
open Go.Proofs
set_option linter.unusedVariables false
set_option linter.unusedSimpArgs false

section
variable {d : List (List Int)} {M : List (List V)}

end
end Go.Abs.G


namespace Go.Abs.G
open Go.Proofs
set_option linter.unusedVariables false
set_option linter.unusedSimpArgs false

section
variable {d : List (List Int)} {M : List (List V)}

end
end Go.Abs.G


namespace Go.Abs.G
open Go.Proofs
set_option linter.unusedVariables false
set_option linter.unusedSimpArgs false
attribute [local simp] I.vc

end Go.Abs.G



namespace Go.Abs.G
open Go.Proofs
set_option linter.unusedVariables false
set_option linter.unusedSimpArgs false

section
variable {d : List (List Int)} {ms : List (List (List Int))}

end
end Go.Abs.G


namespace Go.Abs.G
open Go.Proofs
set_option linter.unusedVariables false
set_option linter.unusedSimpArgs false

section
variable {d : List (List Int)} {ms : List (List (List Int))}

end
end Go.Abs.G


namespace Go.Abs.G
open Go.Proofs
set_option linter.unusedVariables false
set_option linter.unusedSimpArgs false

def RR (d : List (List Int)) (ms : List (List (List Int))) : O := R1 (dR d) (mR ms)
theorem R1_ren {D M : List (List V)} (hD : flR D) (hM : flR M) (f : Nat → Nat) : O.ren f (R1 D M) = R1 D M := by
  have h : ∀ (D : List (List V)), (∀ f, D.map (V.renL f) = D) → Ce.renR f (flatC D) = flatC D := fun D hD => by
    have hL : ∀ r : List V, Ce.renL f (r.map Ce.v) = (V.renL f r).map Ce.v := fun r => by
      induction r with
      | nil => rfl
      | cons x r ih => simp [Ce.renL, Ce.ren, V.renL, ih]
    have hR : ∀ D : List (List V), Ce.renR f (flatC D) = flatC (D.map (V.renL f)) := fun D => by
      induction D with
      | nil => rfl
      | cons r D ih =>
        have ih' : Ce.renR f (D.map fun r => r.map Ce.v) = (D.map (V.renL f)).map fun r => r.map Ce.v := ih
        simp [flatC, Ce.renR, hL, ih']
    rw [hR, hD]
  simp [R1, O.ren, Ce.renR, Ce.renL, Ce.ren, h D hD.1, h M hM.1]
theorem RR_clo (d : List (List Int)) (ms : List (List (List Int))) : (RR d ms).clo := ⟨rfl, fun f => R1_ren (fl_dR d) (fl_mR ms) f, fun e => by cases e⟩
@[simp ↓ high] theorem RR_clo' (d : List (List Int)) (ms : List (List (List Int))) : (RR d ms).clo = True := eq_true (RR_clo d ms)
@[simp] theorem RR_lim (n : Nat) (d : List (List Int)) (ms : List (List (List Int))) : limO n (RR d ms) = RR d ms := by simp [RR, R1, limO, O.refs]
@[simp] theorem RR_refs (d : List (List Int)) (ms : List (List (List Int))) : (RR d ms).refs = [] := rfl
@[simp] theorem RR_ren (f : Nat → Nat) (d : List (List Int)) (ms : List (List (List Int))) : O.ren f (RR d ms) = RR d ms := R1_ren (fl_dR d) (fl_mR ms) f

section
variable {d : List (List Int)} {ms : List (List (List Int))} (hr : ROk d ms)
include hr
end
end Go.Abs.G



namespace Go.Abs.G
open Go.Proofs
set_option linter.unusedVariables false
set_option linter.unusedSimpArgs false

end Go.Abs.G


namespace Go.Abs.G
open Go.Proofs
set_option linter.unusedVariables false
set_option linter.unusedSimpArgs false

end Go.Abs.G



namespace Go.Abs.G
open Go.Proofs
set_option linter.unusedVariables false
set_option linter.unusedSimpArgs false

end Go.Abs.G


namespace Go.Abs.G
open Go.Proofs
set_option linter.unusedVariables false
set_option linter.unusedSimpArgs false

end Go.Abs.G


namespace Go.Abs.G
open Go.Proofs
set_option linter.unusedVariables false
set_option linter.unusedSimpArgs false

end Go.Abs.G


namespace Go.Abs.G
open Go.Proofs
set_option linter.unusedVariables false
set_option linter.unusedSimpArgs false

end Go.Abs.G


namespace Go.Abs.G
open Go.Proofs
set_option linter.unusedVariables false
set_option linter.unusedSimpArgs false

end Go.Abs.G


namespace Go.Abs.G
open Go.Proofs
set_option linter.unusedVariables false
set_option linter.unusedSimpArgs false

end Go.Abs.G


namespace Go.Abs.G
open Go.Proofs
set_option linter.unusedVariables false
set_option linter.unusedSimpArgs false

def runR (lo : Int) (n : Nat) : List Int := (List.range n).map fun (i : Nat) => lo + (i : Int)
@[simp] theorem runR_len (lo : Int) (n : Nat) : (runR lo n).length = n := by simp [runR]
end Go.Abs.G


namespace Go.Abs.G
open Go.Proofs
set_option linter.unusedVariables false
set_option linter.unusedSimpArgs false

@[simp ↓ high] theorem St1_tree (s : List Dom) (T : List (List Ce)) : (St1 s T).isTree = true := rfl
@[simp ↓ high] theorem St1_trows (s : List Dom) (T : List (List Ce)) : (St1 s T).trows = 1 := rfl
@[simp ↓ high] theorem St1_isMem (s : List Dom) (T : List (List Ce)) : (St1 s T).isMem = false := rfl
@[simp ↓ high] theorem St1_refs (s : List Dom) (T : List (List Ce)) : (St1 s T).refs = [] := rfl
@[simp ↓ high] theorem St1_lim' (n : Nat) (s : List Dom) (T : List (List Ce)) : limO n (St1 s T) = St1 s T := St1_lim n s T
@[simp ↓ high] theorem St1_ren (f : Nat → Nat) (s : List Dom) (ms : List (List Dom)) : O.ren f (St1 s (mT ms)) = St1 s (mT ms) := by
  simp [St1, O.ren, Ce.renR, Ce.renL, Ce.ren, domCe_ren, mT_ren]
@[simp] theorem St1_clo (s : List Dom) (ms : List (List Dom)) : (St1 s (mT ms)).clo := ⟨rfl, fun f => St1_ren f s ms, fun e => by cases e⟩

end Go.Abs.G


namespace Go.Abs.G
open Go.Proofs
set_option linter.unusedVariables false
set_option linter.unusedSimpArgs false

structure DOp where
  kind : Int
  ck : Int
  cx : Int
  cv : Int
  n : Int
structure DCut where
  k : Int
  x : Int
  v : Int
def DOp.cells (o : DOp) : List V := [V.i o.kind, V.i o.ck, V.i o.cx, V.i o.cv, V.i o.n]
def DCut.cells (c : DCut) : List V := [V.i c.k, V.i c.x, V.i c.v]
structure SG (s : List Dom) (ms : List (List Dom)) : Prop extends SOk s ms where
  L : ∀ L ∈ ms, L.length ≤ 64 ∧ ∀ d ∈ L, d.ok

theorem cutS_cases (s : List Dom) (k x v : Int) : (cutS s k x v).1 = s ∨ ∃ d, s[x.toNat]? = some d ∧ (cutS s k x v).1 = s.set x.toNat (cutTo k v d d.width) := by
  unfold cutS
  split
  · split
    · next d e => split
                  · exact .inl rfl
                  · exact .inr ⟨d, e, rfl⟩
    · exact .inl rfl
  · exact .inl rfl
theorem cutS_len (s : List Dom) (k x v : Int) : (cutS s k x v).1.length = s.length := by
  rcases cutS_cases s k x v with e | ⟨d, _, e⟩ <;> rw [e]; simp
theorem cutS_ok {s : List Dom} (k x v : Int) (h : ∀ d ∈ s, d.ok) : ∀ d ∈ (cutS s k x v).1, d.ok := by
  rcases cutS_cases s k x v with e | ⟨d, hd, e⟩ <;> rw [e]
  · exact h
  · intro d' hd'
    rcases List.mem_or_eq_of_mem_set hd' with h' | rfl
    · exact h d' h'
    · exact cutTo_ok k v (h d (List.mem_of_getElem? hd)) _
theorem SG.cut {s : List Dom} {ms : List (List Dom)} (h : SG s ms) (k x v : Int) : SG (cutS s k x v).1 ms :=
  ⟨⟨by rw [cutS_len]; exact h.n, h.k, cutS_ok k x v h.d⟩, h.L⟩

end Go.Abs.G


namespace Go.Abs.G
open Go.Proofs
set_option linter.unusedVariables false
set_option linter.unusedSimpArgs false

theorem drop_has {d : Dom} (h : d.ok) {k i : Nat} (hk : k < 64) (hi : i < 64) : (d.drop k).has i = (d.has i && !decide (i = k)) := by
  unfold Dom.drop Dom.has
  by_cases h1 : k < 32
  · rw [if_pos h1]
    by_cases h2 : i < 32
    · simp only [h2, if_true]; exact clr_bit h.a h1 i
    · simp only [h2, if_false]
      have : i ≠ k := by omega
      simp [this]
  · rw [if_neg h1]
    by_cases h2 : i < 32
    · simp only [h2, if_true]
      have : i ≠ k := by omega
      simp [this]
    · simp only [h2, if_false]
      rw [clr_bit h.b (by omega)]
      have : (i - 32 = k - 32) ↔ i = k := by omega
      simp [this]

theorem cutTo_has (k v : Int) {d : Dom} (h : d.ok) : ∀ n, n ≤ 64 → ∀ i, i < 64 → (cutTo k v d n).has i = (d.has i && !(decide (i < n) && goesB k v (d.from' + i))) := by
  intro n
  induction n with
  | zero => intro _ i _; simp [cutTo]
  | succ n ih =>
    intro hn i hi
    have ih := ih (by omega) i hi
    unfold cutTo
    have hin : i < n + 1 ↔ (i < n ∨ i = n) := by omega
    split
    · next hg =>
      rw [drop_has (cutTo_ok k v h n) (by omega) hi, ih]
      by_cases hi2 : i = n
      · subst hi2; simp [hg]
      · have : decide (i < n + 1) = decide (i < n) := by simp; omega
        simp [hi2, this]
    · next hg =>
      rw [ih]
      by_cases hi2 : i = n
      · subst hi2
        have : goesB k v (d.from' + i) = false := by simpa using hg
        simp [this]
      · have : decide (i < n + 1) = decide (i < n) := by simp; omega
        rw [this]

def NE (s : List Dom) : Prop := ∀ d ∈ s, d.none = false
theorem NE.cut {s : List Dom} (h : NE s) (k x v : Int) : NE (cutS s k x v).1 := by
  unfold cutS
  split
  · split
    · next d e =>
      split
      · exact h
      · next hn =>
        intro d' hd'
        rcases List.mem_or_eq_of_mem_set hd' with h' | rfl
        · exact h d' h'
        · simpa using hn
    · exact h
  · exact h
theorem add_has {d : Dom} (h : d.ok) {k i : Nat} (hk : k < 64) (hi : i < 64) : (d.add k).has i = (d.has i || decide (i = k)) := by
  unfold Dom.add Dom.has
  by_cases h1 : k < 32
  · rw [if_pos h1]
    by_cases h2 : i < 32
    · simp only [h2, if_true]; exact sett_bit h.a h1 i
    · simp only [h2, if_false]
      have : i ≠ k := by omega
      simp [this]
  · rw [if_neg h1]
    by_cases h2 : i < 32
    · simp only [h2, if_true]
      have : i ≠ k := by omega
      simp [this]
    · simp only [h2, if_false]
      rw [sett_bit h.b (by omega)]
      have : (i - 32 = k - 32) ↔ i = k := by omega
      simp [this]
theorem fillTo_has {d : Dom} (h : d.ok) : ∀ n, n ≤ 64 → ∀ i, i < 64 → (fillTo d n).has i = (d.has i || decide (i < n)) := by
  intro n
  induction n with
  | zero => intro _ i _; simp [fillTo]
  | succ n ih =>
    intro hn i hi
    have ih := ih (by omega) i hi
    unfold fillTo
    rw [add_has (fillTo_ok h n) (by omega) hi, ih]
    by_cases h1 : i = n
    · subst h1; simp
    · have : decide (i < n + 1) = decide (i < n) := by simp; omega
      simp [h1, this]
theorem domOf_width (v : Var) : (domOf v).width = (v.hi - v.lo + 1).toNat := fillTo_width _ _
theorem domOf_has {v : Var} (h : VarOk v) {i : Nat} (hi : i < (domOf v).width) : (domOf v).has i = true := by
  have hok := dom0_ok h
  have hw := hok.w
  rw [domOf_width] at hi
  have hi' : i < (dom0 v).width := hi
  unfold domOf
  rw [fillTo_has hok _ hw i (by omega)]
  simp [hi']
theorem none_of_has {d : Dom} {i : Nat} (h : d.has i = true) : d.none = false := by
  unfold Dom.none
  unfold Dom.has at h
  split at h
  · have : d.a ≠ 0 := fun e => by rw [e] at h; simp at h
    simp [this]
  · have : d.b ≠ 0 := fun e => by rw [e] at h; simp at h
    simp [this]

theorem vals_eq {d d' : Dom} (hf : d'.from' = d.from') (hw : d'.width = d.width) (hh : ∀ i, i < d.width → d'.has i = d.has i) : d'.vals d'.width = d.vals d.width := by
  unfold Dom.vals
  rw [hw, hf]
  congr 1
  refine List.filter_congr fun i hi => ?_
  exact hh i (List.mem_range.1 hi)

end Go.Abs.G


/- What the reference's store tells is what the store tells. -/
namespace Go.Abs.G
set_option linter.unusedVariables false
set_option linter.unusedSimpArgs false

structure DG (x : Dom) : Prop where
  ok : x.ok
  full : ∀ i, i < 64 → x.width ≤ i → x.has i = false
  ne : x.none = false
def refD (s : List Dom) : List (List Int) := s.map fun x => x.vals x.width

theorem refD_len (s : List Dom) : (refD s).length = s.length := by simp [refD]
theorem is_ref (s : List Dom) (x : Int) : isR (refD s) x = isB s x := by simp [isR, isB, refD_len]
theorem row_ref (s : List Dom) (x : Int) : rowR (refD s) x = valsB s x := by
  unfold rowR valsB
  rw [is_ref]
  by_cases h : isB s x = true
  · rw [if_pos h, if_pos h]; simp [refD, List.getElem?_map]
  · rw [if_neg h, if_neg h]
theorem mem_vals {x : Dom} {v : Int} : v ∈ x.vals x.width ↔ ∃ i : Nat, i < x.width ∧ x.has i = true ∧ v = x.from' + i := by
  simp only [Dom.vals, List.mem_map, List.mem_filter, List.mem_range]
  constructor
  · rintro ⟨i, ⟨a, b⟩, c⟩; exact ⟨i, a, b, c.symm⟩
  · rintro ⟨i, a, b, c⟩; exact ⟨i, ⟨a, b⟩, c.symm⟩
end Go.Abs.G


namespace Go.Abs.G
set_option linter.unusedVariables false
set_option linter.unusedSimpArgs false

theorem none_has {d : Dom} (h : d.none = true) (i : Nat) : d.has i = false := by
  simp [Dom.none] at h
  unfold Dom.has
  rw [h.1, h.2]
  split <;> simp
theorem has_eq {d e : Dom} (hd : d.ok) (he : e.ok) (h : ∀ i, i < 64 → d.has i = e.has i) : d.a = e.a ∧ d.b = e.b := by
  constructor
  · refine Nat.eq_of_testBit_eq fun i => ?_
    by_cases hi : i < 32
    · have := h i (by omega); simpa [Dom.has, hi] using this
    · rw [Nat.testBit_lt_two_pow (Nat.lt_of_lt_of_le (show d.a < 2 ^ 32 from hd.a) (Nat.pow_le_pow_right (by omega) (by omega : 32 ≤ i))), Nat.testBit_lt_two_pow (Nat.lt_of_lt_of_le (show e.a < 2 ^ 32 from he.a) (Nat.pow_le_pow_right (by omega) (by omega : 32 ≤ i)))]
  · refine Nat.eq_of_testBit_eq fun i => ?_
    by_cases hi : i < 32
    · have := h (32 + i) (by omega); have h2 : ¬ 32 + i < 32 := by omega
      simpa [Dom.has, h2] using this
    · rw [Nat.testBit_lt_two_pow (Nat.lt_of_lt_of_le (show d.b < 2 ^ 32 from hd.b) (Nat.pow_le_pow_right (by omega) (by omega : 32 ≤ i))), Nat.testBit_lt_two_pow (Nat.lt_of_lt_of_le (show e.b < 2 ^ 32 from he.b) (Nat.pow_le_pow_right (by omega) (by omega : 32 ≤ i)))]

section
variable {d : Dom} (h : DG d) (k v : Int)
include h
theorem cut_has (i : Nat) (hi : i < 64) : (cutTo k v d d.width).has i = (d.has i && !(decide (i < d.width) && goesB k v (d.from' + i))) := cutTo_has k v h.ok d.width h.ok.w i hi
theorem cut_vals : (cutTo k v d d.width).vals (cutTo k v d d.width).width = leftR k v (d.vals d.width) := by
  have hw := h.ok.w
  rw [cutTo_width]
  unfold Dom.vals leftR
  rw [List.filter_map, List.filter_filter, cutTo_from]
  congr 1
  refine List.filter_congr fun i hi => ?_
  have hi : i < d.width := by simpa using hi
  rw [cut_has h k v i (by omega)]
  simp [hi, Function.comp, Bool.and_comm]
theorem cut_none : (cutTo k v d d.width).none = decide (leftR k v (d.vals d.width) = []) := by
  have hw := h.ok.w
  have hok := cutTo_ok k v h.ok d.width
  rw [← cut_vals h k v, Bool.eq_iff_iff, decide_eq_true_eq]
  constructor
  · intro hn
    refine List.eq_nil_iff_forall_not_mem.2 fun u hu => ?_
    obtain ⟨i, a, b, c⟩ := mem_vals.1 hu
    rw [none_has hn] at b; cases b
  · intro he
    have : (cutTo k v d d.width).a = 0 ∧ (cutTo k v d d.width).b = 0 := has_eq (e := ⟨d.from', d.width, 0, 0⟩) hok ⟨h.ok.f, h.ok.w, by simp, by simp⟩ fun i hi => by
      have hz : (⟨d.from', d.width, 0, 0⟩ : Dom).has i = false := none_has rfl i
      rw [hz]
      by_cases hiw : i < d.width
      · cases hb : (cutTo k v d d.width).has i
        · rfl
        · have := mem_vals.2 ⟨i, by rw [cutTo_width]; exact hiw, hb, rfl⟩
          rw [he] at this; cases this
      · rw [cut_has h k v i hi, h.full i hi (by omega)]; rfl
    simp [Dom.none, this]
theorem cut_same : (!(cutTo k v d d.width).same d) = decide ((leftR k v (d.vals d.width)).length < (d.vals d.width).length) := by
  have hw := h.ok.w
  have hok := cutTo_ok k v h.ok d.width
  cases hs : (cutTo k v d d.width).same d
  · symm
    simp only [Bool.not_false, decide_eq_true_eq]
    refine Nat.lt_of_le_of_ne (leftR_len k v _) fun e => ?_
    have hall : leftR k v (d.vals d.width) = d.vals d.width := List.filter_sublist.eq_of_length e
    have := has_eq hok h.ok fun i hi => by
      by_cases hiw : i < d.width
      · rw [cut_has h k v i hi]
        cases hb : d.has i
        · rfl
        · have hm : d.from' + (i : Int) ∈ d.vals d.width := mem_vals.2 ⟨i, hiw, hb, rfl⟩
          rw [← hall] at hm
          have := (List.mem_filter.1 hm).2
          simp at this
          simp [this]
      · rw [cut_has h k v i hi, h.full i hi (by omega)]; rfl
    simp [Dom.same, this] at hs
  · symm
    simp only [Bool.not_true, decide_eq_false_iff_not]
    simp [Dom.same] at hs
    have : leftR k v (d.vals d.width) = d.vals d.width := by
      rw [← cut_vals h k v]
      refine vals_eq (cutTo_from k v d d.width) (cutTo_width k v d d.width) fun i _ => ?_
      unfold Dom.has; rw [hs.1, hs.2]
    rw [this]; omega
theorem cut_DG (hn : leftR k v (d.vals d.width) ≠ []) : DG (cutTo k v d d.width) := by
  refine ⟨cutTo_ok k v h.ok d.width, fun i hi hw => ?_, ?_⟩
  · rw [cutTo_width] at hw
    rw [cut_has h k v i hi, h.full i hi hw]; rfl
  · rw [cut_none h k v]; simpa using hn
end

theorem cut_ref {s : List Dom} (hs : ∀ d ∈ s, DG d) (k x v : Int) : cutR (refD s) k x v = (refD (cutS s k x v).1, (cutS s k x v).2) ∧ ∀ d ∈ (cutS s k x v).1, DG d := by
  unfold cutR cutS
  rw [is_ref]
  by_cases hb : isB s x = true
  · have hb2 := hb
    simp [isB] at hb2
    have hlt : x.toNat < s.length := by omega
    obtain ⟨d, hd⟩ : ∃ d, s[x.toNat]? = some d := ⟨_, List.getElem?_eq_getElem hlt⟩
    have hdg := hs d (List.mem_of_getElem? hd)
    have hrow : rowR (refD s) x = d.vals d.width := by
      rw [row_ref]; unfold valsB; rw [if_pos hb, hd]; rfl
    rw [hrow, hb, if_neg (by simp), if_pos rfl, hd]
    simp only [cut_none hdg k v, cut_same hdg k v, decide_eq_true_eq]
    by_cases hn : leftR k v (d.vals d.width) = []
    · rw [if_pos hn, if_pos hn]
      exact ⟨rfl, hs⟩
    · rw [if_neg hn, if_neg hn]
      refine ⟨?_, fun e he => ?_⟩
      · simp only [refD, List.map_set, cut_vals hdg k v]
      · rcases List.mem_or_eq_of_mem_set he with h | h
        · exact hs e h
        · rw [h]; exact cut_DG hdg k v hn
  · have hf : isB s x = false := by simpa using hb
    rw [hf]
    simp
    exact hs
end Go.Abs.G


namespace Go.Abs.G
set_option linter.unusedVariables false
set_option linter.unusedSimpArgs false

theorem domOf_DG {v : Var} (h : VarOk v) : DG (domOf v) := by
  have hok := dom0_ok h
  refine ⟨fillTo_ok hok _, fun i hi hw => ?_, none_of_has (domOf_has h (i := 0) ?_)⟩
  · rw [domOf_width] at hw
    unfold domOf
    rw [fillTo_has hok (dom0 v).width hok.w i hi]
    have hz : (dom0 v).has i = false := none_has rfl i
    have : ¬ i < (dom0 v).width := by simp only [dom0]; omega
    rw [hz]; simp [this]
  · rw [domOf_width]
    obtain ⟨a, b, c, e⟩ := h
    omega
theorem doms_DG (m : Model) : ∀ d ∈ domsOf m, DG d := by
  unfold domsOf
  by_cases hz : (checkB m).2 = 0
  · have hR : Right m := right_iff.1 (by simp [rightB, hz])
    rw [if_pos hz]
    intro d hd
    simp only [List.mem_map] at hd
    obtain ⟨v, hv, rfl⟩ := hd
    obtain ⟨i, hi⟩ := List.getElem?_of_mem hv
    exact domOf_DG (VarOk.of (hR.var i v hi))
  · rw [if_neg hz]; intro d hd; cases hd
theorem doms_len (m : Model) : (domsOf m).length ≤ 64 := by
  unfold domsOf
  by_cases hz : (checkB m).2 = 0
  · have hR : Right m := right_iff.1 (by simp [rightB, hz])
    have := hR.nv
    rw [if_pos hz, List.length_map]; omega
  · rw [if_neg hz]; simp

/-- Both stores, with all marks, tell the same. -/
structure Two (s : List Dom) (ms : List (List Dom)) : Prop where
  n : s.length ≤ 64
  k : ms.length ≤ 1000000
  d : ∀ d ∈ s, DG d
  m : ∀ L ∈ ms, L.length ≤ 64 ∧ ∀ d ∈ L, DG d
theorem Two.new (m : Model) : Two (domsOf m) [] := ⟨doms_len m, by simp, doms_DG m, fun L hL => by cases hL⟩
theorem Two.cut {s : List Dom} {ms : List (List Dom)} (h : Two s ms) (k x v : Int) : Two (cutS s k x v).1 ms := ⟨by rw [cutS_len]; exact h.n, h.k, (cut_ref h.d k x v).2, h.m⟩
theorem Two.mark {s : List Dom} {ms : List (List Dom)} (h : Two s ms) (hk : ms.length + 1 ≤ 1000000) : Two s (ms ++ [s]) := ⟨h.n, by simpa using hk, h.d, fun L hL => by
  rcases List.mem_append.1 hL with hL | hL
  · exact h.m L hL
  · rw [List.mem_singleton.1 hL]; exact ⟨h.n, h.d⟩⟩
theorem Two.back {s : List Dom} {ms : List (List Dom)} (h : Two s ms) {j : Nat} (hj : j < ms.length) : Two ms[j] (ms.take j) := ⟨(h.m _ (List.getElem_mem hj)).1, Nat.le_trans (by simp; omega) h.k, (h.m _ (List.getElem_mem hj)).2, fun L hL => h.m L (List.mem_of_mem_take hL)⟩
end Go.Abs.G


/- Both stores under one name each, with their calls. -/
namespace Go.Abs.G
open Go.Proofs
set_option linter.unusedVariables false
set_option linter.unusedSimpArgs false

/-- The program's store, the document's: each one object. -/
def ST (s : List Dom) (ms : List (List Dom)) : O := St1 s (mT ms)
def RT (s : List Dom) (ms : List (List Dom)) : O := RR (refD s) (ms.map refD)
theorem ST_nres (s : List Dom) (ms : List (List Dom)) : ST s ms ≠ .res := fun e => by cases e
theorem RT_nres (s : List Dom) (ms : List (List Dom)) : RT s ms ≠ .res := fun e => by cases e
theorem ST_clo' (s : List Dom) (ms : List (List Dom)) : (ST s ms).clo := St1_clo s ms
theorem RT_clo' (s : List Dom) (ms : List (List Dom)) : (RT s ms).clo := RR_clo _ _
section
variable (s : List Dom) (ms : List (List Dom))
@[simp high] theorem ST_isMem : (ST s ms).isMem = false := rfl
@[simp high] theorem RT_isMem : (RT s ms).isMem = false := rfl
@[simp high] theorem ST_isTree : (ST s ms).isTree = true := rfl
@[simp high] theorem RT_isTree : (RT s ms).isTree = true := rfl
@[simp high] theorem ST_trows : (ST s ms).trows = 1 := rfl
@[simp high] theorem RT_trows : (RT s ms).trows = 1 := rfl
@[simp high] theorem ST_refs : (ST s ms).refs = [] := rfl
@[simp high] theorem RT_refs : (RT s ms).refs = [] := rfl
@[simp high] theorem ST_tot : (ST s ms).hasTot 1 = True := by simp [ST, St1, O.hasTot]
@[simp high] theorem RT_tot : (RT s ms).hasTot 1 = True := by simp [RT, RR, R1, O.hasTot]
@[simp] theorem ST_nres' : (ST s ms = .res) = False := eq_false (ST_nres s ms)
@[simp] theorem RT_nres' : (RT s ms = .res) = False := eq_false (RT_nres s ms)
@[simp] theorem ST_clo : (ST s ms).clo = True := eq_true (ST_clo' s ms)
@[simp] theorem RT_clo : (RT s ms).clo = True := eq_true (RT_clo' s ms)
@[simp high] theorem ST_ren (f : Nat → Nat) : O.ren f (ST s ms) = ST s ms := (ST_clo' s ms).ren f
@[simp high] theorem RT_ren (f : Nat → Nat) : O.ren f (RT s ms) = RT s ms := (RT_clo' s ms).ren f
@[simp high] theorem ST_lim (n : Nat) : limO n (ST s ms) = ST s ms := by simp [ST]
@[simp high] theorem RT_lim (n : Nat) : limO n (RT s ms) = RT s ms := by simp [RT, RR, R1, limO, O.refs]
end

@[simp high] theorem ren_vInts (f : Nat → Nat) (l : List Int) : V.ren f (vInts l) = vInts l := by
  simp only [vInts, V.ren]
section
variable {s : List Dom} {ms : List (List Dom)} (h : Two s ms)
include h
end
end Go.Abs.G


/- What a cut makes of the values; what is open. -/
namespace Go.Abs.G
open Go.Proofs
set_option linter.unusedVariables false

end Go.Abs.G



namespace Go.Abs.G
open Go.Proofs
set_option linter.unusedVariables false
set_option linter.unusedSimpArgs false

theorem tdiv_mod (n by' : Int) (hb : 0 < by') : (n.tmod by' < 0 → n.tdiv by' - 1 = n / by' ∧ n.tmod by' + by' = n % by') ∧ (¬ n.tmod by' < 0 → n.tdiv by' = n / by' ∧ n.tmod by' = n % by') := by
  have e1 := Int.mul_tdiv_add_tmod n by'
  have e2 := Int.mul_ediv_add_emod n by'
  have a1 := Int.emod_nonneg n (show by' ≠ 0 by omega)
  have a2 := Int.emod_lt_of_pos n hb
  have b1 := Int.tmod_lt_of_pos n hb
  have b2 : -by' < n.tmod by' := by
    have := Int.lt_tmod_of_pos n hb; omega
  have key : ∀ q r q' r' : Int, by' * q + r = by' * q' + r' → 0 ≤ r → r < by' → 0 ≤ r' → r' < by' → q = q' ∧ r = r' := by
    intro q r q' r' e c1 c2 c3 c4
    have : by' * (q - q') = r' - r := by rw [Int.mul_sub]; omega
    have hq : q - q' = 0 := by
      by_cases h0 : 0 < q - q'
      · have : by' * 1 ≤ by' * (q - q') := Int.mul_le_mul_of_nonneg_left (by omega) (by omega)
        omega
      · by_cases h1 : q - q' < 0
        · have : by' * (q - q') ≤ by' * (-1) := Int.mul_le_mul_of_nonneg_left (by omega) (by omega)
          omega
        · omega
    rw [hq] at this
    omega
  constructor
  · intro h
    exact key _ _ _ _ (by rw [Int.mul_sub]; omega) (by omega) (by omega) a1 a2
  · intro h
    exact key _ _ _ _ (by omega) (by omega) (by omega) a1 a2
theorem tmod_bound (n by' : Int) (hb : 0 < by') (hs : by' ≤ 4000000000) : -4000000000 < n.tmod by' ∧ n.tmod by' < 4000000000 := by
  have b1 := Int.tmod_lt_of_pos n hb
  have b2 := Int.lt_tmod_of_pos n hb
  omega
end Go.Abs.G


namespace Go.Abs.G
open Go.Proofs
set_option linter.unusedVariables false
set_option linter.unusedSimpArgs false

theorem place6_spec (k n : Int) (hn : 0 < n) (hs : n ≤ 4000000000) : Pf Try.prog hallmarklaw6_place.id [V.i k, V.i n] (V.i (k % n)) := by
  refine DC.of hallmarklaw6_place.ok (by simp) ?_
  unfold hallmarklaw6_place.ir
  obtain ⟨t1, t2⟩ := tdiv_mod k n hn
  obtain ⟨m1, m2⟩ := tmod_bound k n hn hs
  have hne : ¬ n = 0 := by omega
  have w2 : IntKind.i64.wrap (k.tmod n) = k.tmod n := wrap64 (by omega) (by omega)
  by_cases h : k.tmod n < 0
  · obtain ⟨e1, e2⟩ := t1 h
    have w4 : IntKind.i64.wrap (k.tmod n + n) = k.tmod n + n := wrap64 (by omega) (by omega)
    rw [e2] at w4
    simp -dsimp [hne, w2, h, w4, e2, hallmarklaw6_place.rs]
  · obtain ⟨e1, e2⟩ := t2 h
    rw [e2] at w2 h
    simp -dsimp [hne, w2, h, e2, hallmarklaw6_place.rs]

section
variable {m : Model} (hr : Right m)
include hr
theorem at_pl {x : Nat} (hx : x < m.vars.length) : atO (orderOf m) x = plO m x := by
  unfold atO isO
  simp [orderOf, hx]
theorem is_pl {x : Nat} (hx : x < m.vars.length) : isO (orderOf m) x = true := by simp [isO, orderOf, hx]
theorem least_at {x : Nat} (hx : x < m.vars.length) {k : Int} (h1 : (vAt m x).lo < k) (h2 : k ≤ (vAt m x).hi) : leastO (orderOf m) x k = (sO m x + (k - (vAt m x).lo), 1) := by
  have e2 : (plO m x).lo = (vAt m x).lo := rfl
  have e3 : (plO m x).hi = (vAt m x).hi := rfl
  have e : (plO m x).st = sO m x + 1 := if_pos (by omega)
  have h0 := s_lt hr (i := x)
  unfold leastO
  rw [is_pl hr hx, at_pl hr hx, if_neg (by simp), if_neg (by omega), if_neg (by omega)]
  unfold spanNum
  rw [if_neg (by omega), e, e2]
  congr 1; omega
theorem kind_at {x : Nat} (hx : x < m.vars.length) (hc : chosen m x = true) {v : Int} (h1 : (vAt m x).lo ≤ v) (h2 : v ≤ (vAt m x).hi) : kindO (orderOf m) x v = (kO m x + (v - (vAt m x).lo) + 1, 1) := by
  have e2 : (plO m x).lo = (vAt m x).lo := rfl
  have e3 : (plO m x).hi = (vAt m x).hi := rfl
  have e : (plO m x).kd = kO m x + 1 := by simp only [plO, hc, if_pos]
  have h0 := k_A hr (i := x); have h3 := A_0 hr
  have en : spanNum (plO m x).kd (plO m x).lo (plO m x).hi v = kO m x + (v - (vAt m x).lo) + 1 := by
    unfold spanNum
    rw [if_neg (by omega), e, e2]; omega
  unfold kindO
  rw [at_pl hr hx, en, if_neg (by omega), if_pos (by omega)]
theorem kind_no {x : Nat} (hx : x < m.vars.length) (hc : chosen m x = false) (v : Int) : kindO (orderOf m) x v = (0, 0) := by
  have e : (plO m x).kd = 0 := by simp only [plO]; rw [hc]; rfl
  unfold kindO
  rw [at_pl hr hx, if_pos e]
theorem pick_at {i : Nat} (hi : i < m.cons.length) (hk : (cAt m i).kind = 8) {r : Nat} (h : r < (cAt m i).rows.length) : pickO (orderOf m) i r = (tO m i + r + 1, 1) := by
  have e : tbO m i = ⟨tO m i, (cAt m i).xs, (cAt m i).rows⟩ := if_pos hk
  unfold pickO
  have e1 : (orderOf m).ts.getD (i : Int).toNat ⟨-1, [], []⟩ = tbO m i := by simp [orderOf, List.getD, hi]
  have e2 : (orderOf m).ts.length = m.cons.length := by simp [orderOf]
  rw [if_neg (by rw [e2]; omega), e1, e, if_neg (by simp only; omega)]

theorem cnt_at {vs : List Int} {out : List Bool} (hs : SetOk m vs out) {x : Nat} (hx : x < m.vars.length) (hv1 : (vAt m x).lo ≤ vL vs x) :
    ∀ q : Nat, (vAt m x).lo + q ≤ (vAt m x).hi → cntO out (plO m x) q = if (vAt m x).lo + q ≤ vL vs x then (vAt m x).lo + q else vL vs x
  | 0, _ => by
    show (vAt m x).lo = _
    rw [if_pos (by simpa using hv1)]; simp
  | q + 1, hq => by
    have ih := cnt_at hs hx hv1 q (by omega)
    have e2 : (plO m x).lo = (vAt m x).lo := rfl
    have e3 : (plO m x).hi = (vAt m x).hi := rfl
    have e : (plO m x).st = sO m x + 1 := if_pos (by omega)
    have h0 := s_lt hr (i := x)
    have en : spanNum (plO m x).st ((plO m x).lo + 1) (plO m x).hi ((plO m x).lo + 1 + q) = sO m x + q + 1 := by
      unfold spanNum; rw [if_neg (by omega), e]; omega
    have hst := hs.step x hx ((vAt m x).lo + 1 + q) (by omega) (by omega)
    rw [show sO m x + ((vAt m x).lo + 1 + (q : Int) - (vAt m x).lo) - 1 = sO m x + q + 1 - 1 by omega] at hst
    simp only [cntO]
    rw [en, ih, List.getD, hst, Option.getD_some]
    by_cases hv : (vAt m x).lo + 1 + q ≤ vL vs x
    · have e5 : (if decide ((vAt m x).lo + 1 + (q : Int) ≤ vL vs x) = true then (1 : Int) else 0) = 1 := if_pos (decide_eq_true hv)
      rw [e5, if_pos (by omega), if_pos (by omega)]; omega
    · have e5 : (if decide ((vAt m x).lo + 1 + (q : Int) ≤ vL vs x) = true then (1 : Int) else 0) = 0 := if_neg (by rw [decide_eq_true_eq]; exact hv)
      rw [e5, if_neg (by omega : ¬ (vAt m x).lo + ((q + 1 : Nat) : Int) ≤ vL vs x)]
      split <;> omega
theorem values_at {vs : List Int} {out : List Bool} (hs : SetOk m vs out) (hn : vs.length = m.vars.length) (hv : ∀ i < m.vars.length, (vAt m i).lo ≤ vL vs i ∧ vL vs i ≤ (vAt m i).hi) : valuesO (orderOf m) out = vs := by
  refine List.ext_getElem? fun j => ?_
  unfold valuesO orderOf
  simp only [List.getElem?_map]
  by_cases hj : j < m.vars.length
  · have ho := v_ok hr hj
    have h1 := cnt_at hr hs hj (hv j hj).1 ((vAt m j).hi - (vAt m j).lo).toNat (by have := ho.le; omega)
    obtain ⟨h2, h3⟩ := hv j hj
    have hle := ho.le
    have e : vL vs j = vs[j] := by simp [vL, List.getD, hn, hj]
    rw [List.getElem?_range hj, List.getElem?_eq_getElem (by omega)]
    simp only [Option.map_some]
    show some (cntO out (plO m j) ((vAt m j).hi - (vAt m j).lo).toNat) = _
    rw [h1, ← e]
    congr 1
    split <;> omega
  · rw [List.getElem?_eq_none (by simp; omega), List.getElem?_eq_none (by omega)]; rfl
theorem num_ok {out : List Bool} (hn : (out.length : Int) = Nn m) : ∀ p ∈ (orderOf m).ps, (p.lo ≤ p.hi ∧ p.hi - p.lo ≤ 63) ∧ ∀ k, p.lo < k → k ≤ p.hi → 1 ≤ spanNum p.st (p.lo + 1) p.hi k ∧ spanNum p.st (p.lo + 1) p.hi k ≤ out.length := by
  intro p hp
  obtain ⟨x, hx, rfl⟩ := List.mem_map.1 hp
  have hx := List.mem_range.1 hx
  have ho := v_ok hr hx
  have e2 : (plO m x).lo = (vAt m x).lo := rfl
  have e3 : (plO m x).hi = (vAt m x).hi := rfl
  have h0 := s_lt hr (i := x); have h1 := s_A hr hx; have h2 := A_B hr; have h3 := B_N hr
  have hw : w1 m x = (vAt m x).hi - (vAt m x).lo := rfl
  have o1 := ho.le; have o2 := ho.dom
  refine ⟨by rw [e2, e3]; omega, fun k k1 k2 => ?_⟩
  have e : (plO m x).st = sO m x + 1 := if_pos (by omega)
  have en : spanNum (plO m x).st ((plO m x).lo + 1) (plO m x).hi k = sO m x + (k - (vAt m x).lo) := by
    unfold spanNum; rw [if_neg (by omega), e]; omega
  rw [en]; omega
end

/-! The chapter's example. -/
def m6 : Model := ⟨[⟨⟨#[120]⟩, 0, 3⟩, ⟨⟨#[121]⟩, -1, 2⟩], [⟨3, 0, [], 0, 0, 0, 0, [1, 1], [], []⟩], false, []⟩
theorem m6_ok : okModel m6 := by
  refine ⟨⟨by decide, fun v hv => ?_⟩, ⟨by decide, fun c hc => ?_⟩, by decide, fun t ht => by cases ht⟩
  · simp only [m6, List.mem_cons, List.not_mem_nil, or_false] at hv
    rcases hv with rfl | rfl <;> exact ⟨by decide, ⟨by decide, by decide⟩, ⟨by decide, by decide⟩⟩
  · simp only [m6, List.mem_cons, List.not_mem_nil, or_false] at hc
    subst hc
    refine ⟨⟨by decide, by decide⟩, ⟨by decide, by decide⟩, ⟨by decide, fun t ht => by cases ht⟩, ⟨by decide, by decide⟩, ⟨by decide, by decide⟩, ⟨by decide, by decide⟩, ⟨by decide, by decide⟩, ⟨by decide, fun n hn => ?_⟩, ⟨by decide, fun n hn => by cases hn⟩, by decide, fun r hr => by cases hr⟩
    simp only [List.mem_cons, List.not_mem_nil, or_false] at hn
    rcases hn with rfl | rfl <;> exact ⟨by decide, by decide⟩
theorem m6_z : zModel m6 := by
  refine ⟨m6_ok, by decide, by decide, by decide, fun v hv => ?_, fun c hc => ?_⟩
  · simp only [m6, List.mem_cons, List.not_mem_nil, or_false] at hv
    rcases hv with rfl | rfl <;> decide
  · have h := m6_ok.2.1.2 c hc
    simp only [m6, List.mem_cons, List.not_mem_nil, or_false] at hc
    subst hc
    exact ⟨h, by decide, by decide, by decide, by decide, fun r hr => by cases hr⟩
theorem m6_right : Right m6 := right_iff.1 (by decide +kernel)
theorem m6_o : orderOf m6 = ⟨[⟨0, 3, 1, 0⟩, ⟨-1, 2, 4, 7⟩], [⟨-1, [], []⟩], 10⟩ := by rfl
end Go.Abs.G

namespace Go.Abs.G
open Go.Proofs
set_option linter.unusedVariables false
set_option linter.unusedSimpArgs false

theorem sameInts6_spec (a b : List Int) (ha : a.length ≤ maxLen) : Pf Try.prog hallmarklaw6_sameInts.id [vInts a, vInts b] (.bool (decide (a = b))) := by
  have hM : (maxLen : Int) ≤ 9223372036854775807 := by decide
  refine DC.of hallmarklaw6_sameInts.ok (by simp) ?_
  unfold hallmarklaw6_sameInts.ir
  refine vc_cut (At [(0, vInts a), (1, vInts b)] []) (by simp -dsimp [At]) ?_
  try clear h
  rintro ⟨sl, hp, bs⟩ ⟨rfl, h⟩
  simp only [sls_cons, sls_one, sls_nil] at h
  refine vc_cut (fun st => a.length = b.length ∧ At [(0, vInts a), (1, vInts b)] [] st) ?_ ?_
  · by_cases hl : a.length = b.length
    · simp -dsimp [h, At, hl, vInts]
    · have hl' : ¬ (a.length : Int) = b.length := by omega
      have hne : a ≠ b := fun e => hl (by rw [e])
      simp -dsimp [h, hl, hl', vInts, hallmarklaw6_sameInts.rs, hne]
  try clear h
  rintro ⟨sl, hp, bs⟩ ⟨hl, rfl, h⟩
  simp only [sls_cons, sls_one, sls_nil] at h
  refine vc_cut (fun st => a = b ∧ st.hp = []) ?_ ?_
  · refine vc_cut (At [(0, vInts a), (1, vInts b), (5, V.i 0)] []) (by simp -dsimp [h, At]) ?_
    try clear h
    rintro ⟨sl, hp, bs⟩ ⟨rfl, h⟩
    simp only [sls_cons, sls_one, sls_nil] at h
    refine vc_block_of (vc_upto 0 (by simp) a.length (fun i st => (∀ j, j < i → a[j]? = b[j]?) ∧ At [(0, vInts a), (1, vInts b), (5, V.i i)] [] st) ⟨by simp, rfl, by simpa using h⟩ ?_)
    clear h
    rintro i ⟨sl, hp, bs⟩ hi ⟨hx, rfl, h⟩
    simp only [sls_cons, sls_one] at h
    unfold hallmarklaw6_sameInts.b0
    by_cases hil : i < a.length
    · have hw : IntKind.i64.wrap ((i : Int) + 1) = ((i + 1 : Nat) : Int) := by rw [wrap64] <;> omega
      have hil' : i < b.length := by omega
      refine vc_cut (At [(0, vInts a), (1, vInts b), (5, V.i i)] []) (by simp -dsimp [h, At, hil, vInts]) ?_
      try clear h
      rintro ⟨sl, hp, bs⟩ ⟨rfl, h⟩
      simp only [sls_cons, sls_one, sls_nil] at h
      refine vc_cut (fun st => a[i]? = b[i]? ∧ At [(0, vInts a), (1, vInts b), (5, V.i i)] [] st) ?_ ?_
      · refine vc_block_of ?_
        by_cases he : a[i] = b[i]
        · simp -dsimp [h, At, vInts, hil, hil', he]
        · have hne : a ≠ b := fun e => he (by subst e; rfl)
          simp -dsimp [h, vInts, hil, hil', he, hallmarklaw6_sameInts.rs, hne]
      try clear h
      rintro ⟨sl, hp, bs⟩ ⟨he, rfl, h⟩
      simp only [sls_cons, sls_one, sls_nil] at h
      simp -dsimp [h, At, hw, hil, vInts]
      intro j hj
      by_cases hji : j = i
      · rw [hji]; exact he
      · exact hx j (by omega)
    · have hil' : i = a.length := by omega
      subst hil'
      simp -dsimp [h, vInts]
      apply List.ext_getElem?
      intro j
      by_cases hj : j < a.length
      · exact hx j hj
      · rw [List.getElem?_eq_none (by omega), List.getElem?_eq_none (by omega)]
  · rintro ⟨sl, hp, bs⟩ ⟨rfl, rfl⟩
    simp -dsimp [hallmarklaw6_sameInts.rs]

theorem known6_spec : Pf Try.prog hallmarklaw6_known.id [] (.bool true) := by
  have hr := m6_right
  have hob := od_ok hr
  refine DC.of hallmarklaw6_known.ok (by simp) ?_
  unfold hallmarklaw6_known.ir
  have hnew := new6_spec m6 m6_z
  obtain ⟨A, hA⟩ : ∃ A, A = vOd (orderOf m6) := ⟨_, rfl⟩
  have hAi : A.ids = [] := by rw [hA]; simp [vOd, V.ids]
  have hAp : ∃ row j, A = .ref row j := ⟨_, _, hA⟩
  obtain ⟨row, j, hArj⟩ := hAp
  have c0 := countO_spec (orderOf m6)
  have c1 := least6_spec (orderOf m6) hob 0 1 ⟨by decide, by decide⟩
  have c2 := least6_spec (orderOf m6) hob 0 0 ⟨by decide, by decide⟩
  have c3 := kind6_spec (orderOf m6) hob 1 (-1) ⟨by decide, by decide⟩
  have c4 := of6_spec (orderOf m6) hob 7 ⟨by decide, by decide⟩
  have c5 := assign6_spec m6 hr [2, -1] rfl (by decide)
  have e1 : leastO (orderOf m6) 0 1 = (1, 1) := by rw [m6_o]; decide
  have e2 : leastO (orderOf m6) 0 0 = (0, 2) := by rw [m6_o]; decide
  have e3 : kindO (orderOf m6) 1 (-1) = (7, 1) := by rw [m6_o]; decide
  have e4 : ofO (orderOf m6) 7 = some ⟨1, -1, true, 0, 0, false⟩ := by rw [m6_o]; decide
  have e0 : (orderOf m6).n = 10 := by rw [m6_o]
  rw [e0] at c0
  rw [e1] at c1
  rw [e2] at c2
  rw [e3] at c3
  rw [e4] at c4
  rw [← hA] at c0 c1 c2 c3 c4 c5 hnew
  have hc4 : vMean (some ⟨1, -1, true, 0, 0, false⟩) = .tup [.agg [V.i 1, V.i (-1), .bool true, V.i 0, V.i 0, .bool false], .bool true] := rfl
  rw [hc4] at c4
  have hs := sameInts6_spec [2, -1] [2, -1] (by decide)
  simp only [vInts, List.map_cons, List.map_nil] at hs
  refine vc_cut (At [] []) (by simp -dsimp [At]) ?_
  try clear h
  rintro ⟨sl, hp, bs⟩ ⟨rfl, h⟩
  simp only [sls_cons, sls_one, sls_nil] at h
  refine vc_cut (At [(1, A), (2, V.i 0)] [.res, .res, .res]) ?_ ?_
  · simp -dsimp
    have hsub : V.subL [.agg [vVars m6.vars, .view 10 [[V.i 3, V.i 0, nilS, V.i 0, V.i 0, V.i 0, V.i 0, .view 1 [[V.i 1], [V.i 1]], nilS, nilS]], .bool false, nilS]] [.agg m6.cells] :=
      .cons (.agg (.cons (.refl _) (.cons (.row1 (.cons (.refl _) (.cons (.refl _) (.cons (.nil 2) (.cons (.refl _) (.cons (.refl _) (.cons (.refl _) (.cons (.refl _) (.cons (.refl _) (.cons (.nil 1) (.cons (.nil 1) .nil))))))))))) (.cons (.refl _) (.cons (.nil 2) .nil))))) .nil
    refine gcall_gen (DP.sub hsub hnew) (by simp -dsimp [vVars, m6, Var.cells]) (by simp -dsimp [vVars]) ?_
    rintro r (⟨_, rfl⟩ | ⟨hn, _⟩)
    · simp -dsimp [At]
    · exact (hn hr).elim
  try clear h
  rintro ⟨sl, hp, bs⟩ ⟨rfl, h⟩
  simp only [sls_cons, sls_one, sls_nil] at h
  refine vc_cut (At [(1, A)] [.res, .res, .res]) ?_ ?_
  · simp -dsimp [h, hArj]
    refine gcall (zs := [A]) (by rw [hArj] at c0 ⊢; exact c0) (by simp -dsimp [h, hArj]) (by simp [hAi]) ?_
    simp -dsimp [h, At, hArj]
  try clear h
  rintro ⟨sl, hp, bs⟩ ⟨rfl, h⟩
  simp only [sls_cons, sls_one, sls_nil] at h
  refine vc_cut (At [(1, A), (3, V.i 1), (4, V.i 1)] [.res, .res, .res]) ?_ ?_
  · simp -dsimp [h]
    refine gcall c1 (by simp -dsimp [h]) (by simp [hAi]) ?_
    simp -dsimp [h, At]
  try clear h
  rintro ⟨sl, hp, bs⟩ ⟨rfl, h⟩
  simp only [sls_cons, sls_one, sls_nil] at h
  refine vc_cut (At [(1, A), (3, V.i 1), (4, V.i 1), (5, V.i 0), (6, V.i 2)] [.res, .res, .res]) ?_ ?_
  · simp -dsimp [h]
    refine gcall c2 (by simp -dsimp [h]) (by simp [hAi]) ?_
    simp -dsimp [h, At]
  try clear h
  rintro ⟨sl, hp, bs⟩ ⟨rfl, h⟩
  simp only [sls_cons, sls_one, sls_nil] at h
  refine vc_cut (At [(1, A), (3, V.i 1), (4, V.i 1), (5, V.i 0), (6, V.i 2), (7, V.i 7), (8, V.i 1)] [.res, .res, .res]) ?_ ?_
  · simp -dsimp [h]
    refine gcall c3 (by simp -dsimp [h]) (by simp [hAi]) ?_
    simp -dsimp [h, At]
  try clear h
  rintro ⟨sl, hp, bs⟩ ⟨rfl, h⟩
  simp only [sls_cons, sls_one, sls_nil] at h
  obtain ⟨M, hM⟩ : ∃ M, M = O.mem false [] [[V.i 1, V.i (-1), .bool true, V.i 0, V.i 0, .bool false]] := ⟨_, rfl⟩
  refine vc_cut (At [(1, A), (3, V.i 1), (4, V.i 1), (5, V.i 0), (6, V.i 2), (7, V.i 7), (8, V.i 1), (9, .ptr 3 1 0 0), (10, .bool true)] [.res, .res, .res, M]) ?_ ?_
  · simp -dsimp [h]
    refine gcall c4 (by simp -dsimp [h]) (by simp [hAi]) ?_
    simp -dsimp [h, At, hM]
  try clear h
  rintro ⟨sl, hp, bs⟩ ⟨rfl, h⟩
  simp only [sls_cons, sls_one, sls_nil] at h
  refine vc_cut (fun st => ∃ out, SetOk m6 [2, -1] out ∧ At [(1, A), (3, V.i 1), (4, V.i 1), (5, V.i 0), (6, V.i 2), (7, V.i 7), (8, V.i 1), (9, .ptr 3 1 0 0), (10, .bool true), (11, vBools out), (12, .bool true)] [.res, .res, .res, M, .res] st) ?_ ?_
  · simp -dsimp [h]
    refine gcall_gen c5 (by simp -dsimp [h, vInts]) (by simp [hAi, vInts]) ?_
    rintro r ⟨out, rfl, hso⟩
    simp -dsimp [h, At]
    exact ⟨out, hso, rfl⟩
  rintro ⟨sl, hp, bs⟩ ⟨out, hso, rfl, h⟩; simp only [sls_cons, sls_one] at h
  have hvo := values6_spec (orderOf m6) hob out (by rw [hso.n]; rfl) (fun p hp => (num_ok hr hso.n p hp).1) (fun p hp => (num_ok hr hso.n p hp).2)
  rw [values_at hr hso rfl (by decide), ← hA] at hvo
  have hl : out.length = 10 := by have := hso.n; rw [show Nn m6 = 10 from by rfl] at this; omega
  have s0 : out[0]? = some true := hso.step 0 (by decide) 1 (by decide) (by decide)
  have s1 : out[1]? = some true := hso.step 0 (by decide) 2 (by decide) (by decide)
  have s2 : out[2]? = some false := hso.step 0 (by decide) 3 (by decide) (by decide)
  have s6 : out[6]? = some true := hso.kd 1 (by decide) (by decide)
  have g0 : ∀ hh, out[0]'hh = true := fun hh => by rw [List.getElem?_eq_getElem hh] at s0; exact Option.some.inj s0
  have g1 : ∀ hh, out[1]'hh = true := fun hh => by rw [List.getElem?_eq_getElem hh] at s1; exact Option.some.inj s1
  have g2 : ∀ hh, out[2]'hh = false := fun hh => by rw [List.getElem?_eq_getElem hh] at s2; exact Option.some.inj s2
  have g6 : ∀ hh, out[6]'hh = true := fun hh => by rw [List.getElem?_eq_getElem hh] at s6; exact Option.some.inj s6
  obtain ⟨S, hS⟩ : ∃ S, S = vBools out := ⟨_, rfl⟩
  have hSi : S.ids = [] := by rw [hS]; rfl
  rw [← hS] at hvo h
  simp only [vInts, List.map_cons, List.map_nil] at hvo
  have hSv : S = .view 1 (out.map fun b => [.bool b]) := hS
  refine vc_cut (At [(3, V.i 1), (4, V.i 1), (5, V.i 0), (6, V.i 2), (7, V.i 7), (8, V.i 1), (9, .ptr 3 1 0 0), (10, .bool true), (11, S), (12, .bool true), (13, vInts [2, -1]), (14, .bool true)] [.res, .res, .res, M, .res]) ?_ ?_
  · simp -dsimp [h]
    refine gcall hvo (by simp -dsimp [h]) (by simp [hAi, hSi]) ?_
    simp -dsimp [h, At, vInts]
  try clear h
  rintro ⟨sl, hp, bs⟩ ⟨rfl, h⟩
  simp only [sls_cons, sls_one, sls_nil] at h
  refine vc_cut (fun st => At [(0, .bool true)] [.res, .res, .res, M, .res, .res] st) ?_ ?_
  · refine vc_reg_of (vcIts_cut 27 (At [(95, .bool true), (10, .bool true), (11, S), (12, .bool true), (13, vInts [2, -1]), (14, .bool true)] [.res, .res, .res, M, .res, .res]) ?_ ?_)
    · simp -dsimp [h, At, hM]
    rintro ⟨sl, hp, bs⟩ ⟨rfl, h⟩; simp only [sls_cons, sls_one] at h
    refine vcIts_cut 16 (At [(111, .bool true), (11, S), (13, vInts [2, -1]), (14, .bool true)] [.res, .res, .res, M, .res, .res]) ?_ ?_
    · simp -dsimp [h, At, hSv, hl, g0]
    rintro ⟨sl, hp, bs⟩ ⟨rfl, h⟩; simp only [sls_cons, sls_one] at h
    refine vcIts_cut 11 (At [(122, .bool true), (11, S), (13, vInts [2, -1]), (14, .bool true)] [.res, .res, .res, M, .res, .res]) ?_ ?_
    · simp -dsimp [h, At, hSv, hl, g1, g2]
    rintro ⟨sl, hp, bs⟩ ⟨rfl, h⟩; simp only [sls_cons, sls_one] at h
    simp -dsimp [h, hSv, hl, g6, vInts]
    refine gcall hs (by simp -dsimp [h]) (by simp) ?_
    simp -dsimp [h, At]
  try clear h
  rintro ⟨sl, hp, bs⟩ ⟨rfl, h⟩
  simp only [sls_cons, sls_one, sls_nil] at h
  simp -dsimp [h, hallmarklaw6_known.rs]
end Go.Abs.G

namespace Go.Abs.G
open Go.Proofs
set_option linter.unusedVariables false
set_option linter.unusedSimpArgs false

theorem cntModel3 (left : Int) (m : Model) (h : okLeft left) (hm : okModel m) : DC Try.prog hallmarkroom_Count_Model.id [.ptr 0 1 0 0, .agg m.cells] [cnt left] (fun r H => ∃ left', okLeft left' ∧ r = .any ∧ H = [cnt left']) := by
  refine DC.trim (Q := fun r H => r = .any ∧ ∃ left' o, okLeft left' ∧ H = [cnt left', o]) ?_ ?_
  · exact DC.weak (cntModel2_spec left m h hm) fun r H ⟨left', o, h1, _, h2⟩ => ⟨.any, fun _ _ _ => .any, rfl, left', o, h1, h2⟩
  · rintro r H ⟨rfl, left', o, h1, rfl⟩
    exact ⟨1, by simp, by simp [V.ids], left', h1, rfl, by simp [cnt]⟩

section
variable {m : Model} (hr : Right m)
include hr
theorem w3_rows (i : Nat) : w3 m i = (cAt m i).rows.length := by
  unfold w3
  by_cases hk : (cAt m i).kind = 8
  · rw [if_pos hk]
  · rw [if_neg hk, tab_no hr hk]; rfl

variable {A : V} (hA : A = vOd (orderOf m)) {B K : O} (hB : B = .mem false [] [m.cells]) (hK : K.refs = [])
include hA hB hK
/-- The numbers of one variable's steps. -/
theorem law_b1 {Y : V} (hY : Y.ids = []) {C : O} (hC : C.refs = []) {i : Nat} (hi : i < m.vars.length) {Q : Ex → St → Prop} {st : St}
    (hst : At [(1, Y), (2, .ptr 0 1 0 0), (6, A), (8, .own 2 1 0 i i), (9, V.i (sO m i)), (10, V.i i), (11, V.i (vAt m i).lo), (12, V.i (vAt m i).hi), (13, V.i ((vAt m i).lo + 1))] [B, K, C] st)
    (hQ : ∀ st' : St, At [(1, Y), (2, .ptr 0 1 0 0), (6, A), (8, .own 2 1 0 i i), (9, V.i (sO m i + w1 m i)), (10, V.i i), (11, V.i (vAt m i).lo), (12, V.i (vAt m i).hi)] [B, K, C] st' → Q (.exit 2) st') :
    vc Try.prog (.loop hallmarklaw6_OrderBack.b1) Q st := by
  have hob := od_ok hr
  have hAi : A.ids = [] := by rw [hA]; simp [vOd, V.ids]
  have hBr : B.refs = [] := by rw [hB]; rfl
  have hv := v_ok hr hi
  have hw1 : w1 m i = (vAt m i).hi - (vAt m i).lo := rfl
  have q1 := s_lt hr (i := i); have q2 := s_A hr hi; have q3 := An_le hr
  have hls := fun {k : Int} => least_at hr hi (k := k)
  have hos := fun {k : Int} => of_step hr hi (k := k)
  obtain ⟨lo, hlo⟩ : ∃ lo, lo = (vAt m i).lo := ⟨_, rfl⟩
  obtain ⟨hi', hhi⟩ : ∃ hi', hi' = (vAt m i).hi := ⟨_, rfl⟩
  have b1 := hv.lo; have b2 := hv.hi; have b3 := hv.le
  rw [← hlo] at b1 b3 hw1
  rw [← hhi] at b2 b3 hw1
  simp only [← hlo, ← hhi] at hst hQ hls hos
  obtain ⟨hh, h⟩ := hst
  refine vc_upto 3 (by rw [hh]; simp) (hi' - lo).toNat (fun q st => At [(1, Y), (2, .ptr 0 1 0 0), (6, A), (8, .own 2 1 0 i i), (9, V.i (sO m i + q)), (10, V.i i), (11, V.i lo), (12, V.i hi'), (13, V.i (lo + 1 + q))] [B, K, C] st) ⟨hh, by simpa using h⟩ ?_
  clear hh h
  rintro q ⟨sl, hp, bs⟩ hq ⟨rfl, h⟩
  simp only [sls_cons, sls_one] at h
  unfold hallmarklaw6_OrderBack.b1
  by_cases hql : q < (hi' - lo).toNat
  · have hk : lo + 1 + (q : Int) ≤ hi' := by omega
    have c1 := least6_spec (orderOf m) hob i (lo + 1 + q) (by unfold W10; omega)
    have c2 := of6_spec (orderOf m) hob (sO m i + (lo + 1 + q - lo)) (by unfold W10; omega)
    rw [hls (by omega) hk, ← hA] at c1
    rw [hos (by omega) hk, ← hA] at c2
    have eL : sO m i + (lo + 1 + (q : Int) - lo) = sO m i + (q : Int) + 1 := by omega
    rw [eL] at c1 c2
    have w2 : IntKind.i64.wrap (lo + 1 + (q : Int) + 1) = lo + 1 + ((q + 1 : Nat) : Int) := by rw [wrap64] <;> omega
    have w3 : IntKind.i64.wrap (sO m i + (q : Int) + 1) = sO m i + ((q + 1 : Nat) : Int) := by rw [wrap64] <;> omega
    obtain ⟨L, hL⟩ : ∃ L, L = sO m i + (q : Int) + 1 := ⟨_, rfl⟩
    have w4 : IntKind.i64.wrap (sO m i + (q : Int) + 1) = L := by rw [hL]; exact wrap64 (by omega) (by omega)
    have eL2 : sO m i + ((q + 1 : Nat) : Int) = L := by omega
    rw [← hL] at c1 c2
    have hcm : vMean (some ⟨i, lo + 1 + q, false, 0, 0, false⟩) = .tup [.agg [V.i i, V.i (lo + 1 + q), .bool false, V.i 0, V.i 0, .bool false], .bool true] := rfl
    rw [hcm] at c2
    simp -dsimp [h, hk]
    refine gcall c1 (by simp -dsimp [h]) (by simp [hAi]) ?_
    simp -dsimp [h]
    refine gcall c2 (by simp -dsimp [h]) (by simp [hAi]) ?_
    simp -dsimp [h, w4, At, w2, hql, hBr, hK, hC, hAi, hY]
    omega
  · have hk : ¬ lo + 1 + (q : Int) ≤ hi' := by omega
    have e : (q : Int) = w1 m i := by omega
    simp -dsimp [h, hk]
    refine hQ _ ?_
    simp -dsimp [h, At, e]

/-- The numbers of one variable's kinds. -/
theorem law_b3 {X : V} (hX : X.ids = []) {C : O} (hC : C.refs = []) {i : Nat} (hi : i < m.vars.length) {Q : Ex → St → Prop} {st : St}
    (hst : At [(2, .ptr 0 1 0 0), (6, A), (8, X), (9, V.i (kO m i)), (19, V.i i), (21, V.i (vAt m i).hi), (23, V.i (if chosen m i then 1 else 0)), (24, V.i (vAt m i).lo)] [B, K, C] st)
    (hQ : ∀ st' : St, At [(2, .ptr 0 1 0 0), (6, A), (8, X), (9, V.i (kO m i + w2 m i)), (19, V.i i)] [B, K, C] st' → Q (.exit 6) st') :
    vc Try.prog (.loop hallmarklaw6_OrderBack.b3) Q st := by
  have hob := od_ok hr
  have hAi : A.ids = [] := by rw [hA]; simp [vOd, V.ids]
  have hBr : B.refs = [] := by rw [hB]; rfl
  have hv := v_ok hr hi
  have hw1 : w1 m i = (vAt m i).hi - (vAt m i).lo := rfl
  have q1 := k_A hr (i := i); have q2 := k_B hr hi; have q3 := Bn_le hr; have q4 := A_0 hr
  obtain ⟨hh, h⟩ := hst
  cases hc : chosen m i
  · have e2 : w2 m i = 0 := by unfold w2; rw [hc]; rfl
    rw [hc] at h
    rw [e2, Int.add_zero] at hQ
    simp only [Bool.false_eq_true, if_false] at h
    refine vc_upto 3 (by rw [hh]; simp) 0 (fun q st => At [(2, .ptr 0 1 0 0), (6, A), (8, X), (9, V.i (kO m i)), (19, V.i i), (21, V.i (vAt m i).hi), (23, V.i 0), (24, V.i (vAt m i).lo)] [B, K, C] st) ⟨hh, h⟩ ?_
    clear hh h
    rintro q ⟨sl, hp, bs⟩ hq ⟨rfl, h⟩
    simp only [sls_cons, sls_one] at h
    unfold hallmarklaw6_OrderBack.b3
    have hle := hv.le
    simp -dsimp [h, hle]
    refine hQ _ ?_
    simp -dsimp [h, At]
  · have e2 : w2 m i = w1 m i + 1 := by unfold w2; rw [hc]; rfl
    rw [hc] at h
    simp only [if_true] at h
    have hls := fun {v : Int} => kind_at hr hi hc (v := v)
    have hos := fun {v : Int} => of_kind hr hi hc (v := v)
    obtain ⟨lo, hlo⟩ : ∃ lo, lo = (vAt m i).lo := ⟨_, rfl⟩
    obtain ⟨hi', hhi⟩ : ∃ hi', hi' = (vAt m i).hi := ⟨_, rfl⟩
    have b1 := hv.lo; have b2 := hv.hi; have b3 := hv.le
    rw [← hlo] at b1 b3 hw1
    rw [← hhi] at b2 b3 hw1
    simp only [← hlo, ← hhi] at h hQ hls hos
    refine vc_upto 3 (by rw [hh]; simp) (hi' - lo + 1).toNat (fun q st => At [(2, .ptr 0 1 0 0), (6, A), (8, X), (9, V.i (kO m i + q)), (19, V.i i), (21, V.i hi'), (23, V.i 1), (24, V.i (lo + q))] [B, K, C] st) ⟨hh, by simpa using h⟩ ?_
    clear hh h
    rintro q ⟨sl, hp, bs⟩ hq ⟨rfl, h⟩
    simp only [sls_cons, sls_one] at h
    unfold hallmarklaw6_OrderBack.b3
    by_cases hql : q < (hi' - lo + 1).toNat
    · have hk : lo + (q : Int) ≤ hi' := by omega
      have c1 := kind6_spec (orderOf m) hob i (lo + q) (by unfold W10; omega)
      have c2 := of6_spec (orderOf m) hob (kO m i + (lo + q - lo) + 1) (by unfold W10; omega)
      rw [hls (by omega) hk, ← hA] at c1
      rw [hos (by omega) hk, ← hA] at c2
      have eL : kO m i + (lo + (q : Int) - lo) + 1 = kO m i + (q : Int) + 1 := by omega
      rw [eL] at c1 c2
      have w2' : IntKind.i64.wrap (lo + (q : Int) + 1) = lo + ((q + 1 : Nat) : Int) := by rw [wrap64] <;> omega
      obtain ⟨L, hL⟩ : ∃ L, L = kO m i + (q : Int) + 1 := ⟨_, rfl⟩
      have w4 : IntKind.i64.wrap (kO m i + (q : Int) + 1) = L := by rw [hL]; exact wrap64 (by omega) (by omega)
      have eL2 : kO m i + ((q + 1 : Nat) : Int) = L := by omega
      rw [← hL] at c1 c2
      have hcm : vMean (some ⟨i, lo + q, true, 0, 0, false⟩) = .tup [.agg [V.i i, V.i (lo + q), .bool true, V.i 0, V.i 0, .bool false], .bool true] := rfl
      rw [hcm] at c2
      simp -dsimp [h, hk]
      refine gcall c1 (by simp -dsimp [h]) (by simp [hAi]) ?_
      simp -dsimp [h]
      refine gcall c2 (by simp -dsimp [h]) (by simp [hAi]) ?_
      simp -dsimp [h, w4, At, w2', hql, hBr, hK, hC, hAi, hX]
      omega
    · have hk : ¬ lo + (q : Int) ≤ hi' := by omega
      have e : (q : Int) = w2 m i := by omega
      simp -dsimp [h, hk]
      refine hQ _ ?_
      simp -dsimp [h, At, e]

/-- So far a row is as the values say. -/
def PreR (xs row vs : List Int) (k : Nat) : Prop := ∀ (j : Nat) (x : Int), j < k → xs[j]? = some x → row[j]? = some (vL vs x)
/-- The rows of one Table. -/
theorem law_b5 {vs : List Int} {X : V} (hX : X = vInts vs) (hn : vs.length = m.vars.length) {out : List Bool} (hso : SetOk m vs out) {S : V} (hS : S = vBools out) {C : O} (hC : C.refs = []) {i : Nat} (hi : i < m.cons.length) {D : O} (hD : D = .mem false [] [(cAt m i).cells]) {Q : Ex → St → Prop} {st : St}
    (hst : At [(2, .ptr 0 1 0 0), (6, A), (8, X), (9, V.i (tO m i)), (29, S), (30, .bool true), (31, V.i i), (32, .ptr 3 1 0 0), (33, V.i 0)] [B, K, C, D] st)
    (hQ : ∀ st' : St, At [(2, .ptr 0 1 0 0), (6, A), (8, X), (9, V.i (tO m i + w3 m i)), (29, S), (30, .bool true), (31, V.i i)] [B, K, C, D] st' → Q (.exit 10) st') :
    vc Try.prog (.loop hallmarklaw6_OrderBack.b5) Q st := by
  have hob := od_ok hr
  have hAi : A.ids = [] := by rw [hA]; simp [vOd, V.ids]
  have hBr : B.refs = [] := by rw [hB]; rfl
  have hXi : X.ids = [] := by rw [hX]; rfl
  have hSi : S.ids = [] := by rw [hS]; rfl
  have hDr : D.refs = [] := by rw [hD]; rfl
  have q1 := t_B (m := m) (i := i); have q2 := t_N (m := m) hi; have q3 := Nn_le hr; have q4 := A_0 hr; have q5 := A_B hr
  have hw3 := w3_rows hr i
  have hnv := hr.nv
  obtain ⟨c, hcE⟩ : ∃ c, c = cAt m i := ⟨_, rfl⟩
  have hos := fun (hk : (cAt m i).kind = 8) {r : Nat} => of_pick hr hi hk (r := r)
  have hps := fun (hk : (cAt m i).kind = 8) {r : Nat} => pick_at hr hi hk (r := r)
  have htok := fun (hk : (cAt m i).kind = 8) => tab_ok hr hi hk
  have htno := fun (hk : (cAt m i).kind ≠ 8) => tab_no hr hk
  have hrw := hso.row i hi
  have hsn := hso.n
  simp only [← hcE] at hD hw3 hos hps htok htno hrw
  have hcl : c.cells = [V.i c.kind, V.i c.op, vTerms c.terms, V.i c.k, V.i c.v, V.i c.x, V.i c.y, vInts c.xs, vInts c.table, vIntss c.rows] := rfl
  obtain ⟨hh, h⟩ := hst
  refine vc_upto 4 (by rw [hh]; simp) c.rows.length (fun r st => At [(2, .ptr 0 1 0 0), (6, A), (8, X), (9, V.i (tO m i + r)), (29, S), (30, .bool true), (31, V.i i), (32, .ptr 3 1 0 0), (33, V.i r)] [B, K, C, D] st) ⟨hh, by simpa using h⟩ ?_
  clear hh h
  rintro r ⟨sl, hp, bs⟩ hrr ⟨rfl, h⟩
  simp only [sls_cons, sls_one] at h
  unfold hallmarklaw6_OrderBack.b5
  by_cases hrl : r < c.rows.length
  · have hrl' : (r : Int) < c.rows.length := by omega
    have hk8 : c.kind = 8 := Classical.byContradiction fun e => by rw [htno e] at hrl; simp at hrl
    obtain ⟨t1, t2, t3, t4⟩ := htok hk8
    obtain ⟨row, hrow⟩ : ∃ row, row = c.rows[r] := ⟨_, rfl⟩
    have hrowl : row.length = c.xs.length := by rw [hrow]; exact t2 _ (List.getElem_mem hrl)
    have c1 := pick6_spec (orderOf m) hob i r
    have c2 := of6_spec (orderOf m) hob (tO m i + r + 1) (by unfold W10; omega)
    rw [hps hk8 hrl, ← hA] at c1
    rw [hos hk8 hrl, ← hA] at c2
    have hset := hrw hk8 r hrl
    have etb : tbO m i = ⟨tO m i, c.xs, c.rows⟩ := by unfold tbO; rw [← hcE, if_pos hk8]
    have hhol : holdsT (tbO m i) r vs = decide (c.xs.map (vL vs) = row) := by
      rw [etb]; unfold holdsT
      have : c.rows.getD r [] = row := by simp [List.getD, hrl, hrow]
      simp only [this]
    rw [hhol] at hset
    have hwr : IntKind.i64.wrap ((r : Int) + 1) = ((r + 1 : Nat) : Int) := by rw [wrap64] <;> omega
    obtain ⟨e, he⟩ := Int.eq_ofNat_of_zero_le (by omega : 0 ≤ tO m i + r)
    obtain ⟨L, hL⟩ : ∃ L, L = tO m i + (r : Int) + 1 := ⟨_, rfl⟩
    have w4 : IntKind.i64.wrap (tO m i + (r : Int) + 1) = L := by rw [hL]; exact wrap64 (by omega) (by omega)
    have w5 : IntKind.i64.wrap (L - 1) = e := by rw [hL, wrap64] <;> omega
    rw [← hL] at c1 c2
    rw [he, Int.toNat_natCast] at hset
    have heo : e < out.length := (List.getElem?_eq_some_iff.1 hset).1
    have heo' : (e : Int) < out.length := by omega
    have hog : ∀ hh, out[e]'hh = decide (c.xs.map (vL vs) = row) := fun hh => (List.getElem?_eq_some_iff.1 hset).2
    have hLo : ¬ (out.length : Int) < L := by omega
    have hcm : vMean (some ⟨0, 0, false, i, r, true⟩) = .tup [.agg [V.i 0, V.i 0, .bool false, V.i i, V.i r, .bool true], .bool true] := rfl
    rw [hcm] at c2
    obtain ⟨Mo, hMo⟩ : ∃ M, M = O.mem false [] [[V.i 0, V.i 0, .bool false, V.i i, V.i r, .bool true]] := ⟨_, rfl⟩
    have hMr : Mo.refs = [] := by rw [hMo]; rfl
    refine vc_cut (At [(2, .ptr 0 1 0 0), (6, A), (8, X), (9, V.i (tO m i + r)), (29, S), (30, .bool true), (31, V.i i), (32, .ptr 3 1 0 0), (33, V.i r)] [B, K, C, D]) (by simp -dsimp [h, At, hD, hcl, hrl', vInts, vIntss, vTerms]) ?_
    try clear h
    rintro ⟨sl, hp, bs⟩ ⟨rfl, h⟩
    simp only [sls_cons, sls_one, sls_nil] at h
    refine vc_cut (At [(2, .ptr 0 1 0 0), (6, A), (8, X), (9, V.i L), (29, S), (30, .bool true), (31, V.i i), (32, .ptr 3 1 0 0), (33, V.i r)] [B, K, C, D, Mo]) ?_ ?_
    · refine vc_block_of ?_
      refine vc_cut (At [(2, .ptr 0 1 0 0), (6, A), (8, X), (9, V.i (tO m i + r)), (29, S), (30, .bool true), (31, V.i i), (32, .ptr 3 1 0 0), (33, V.i r), (34, V.i L), (35, V.i 1)] [B, K, C, D]) ?_ ?_
      · simp -dsimp [h]
        refine gcall c1 (by simp -dsimp [h]) (by simp [hAi]) ?_
        simp -dsimp [h, At]
      try clear h
      rintro ⟨sl, hp, bs⟩ ⟨rfl, h⟩
      simp only [sls_cons, sls_one, sls_nil] at h
      refine vc_cut (At [(2, .ptr 0 1 0 0), (6, A), (8, X), (9, V.i (tO m i + r)), (29, S), (30, .bool true), (31, V.i i), (32, .ptr 3 1 0 0), (33, V.i r), (34, V.i L), (35, V.i 1), (36, .ptr 4 1 0 0), (37, .bool true)] [B, K, C, D, Mo]) ?_ ?_
      · simp -dsimp [h]
        refine gcall c2 (by simp -dsimp [h]) (by simp [hAi]) ?_
        simp -dsimp [h, At, hMo]
      try clear h
      rintro ⟨sl, hp, bs⟩ ⟨rfl, h⟩
      simp only [sls_cons, sls_one, sls_nil] at h
      refine vc_cut (At [(2, .ptr 0 1 0 0), (6, A), (8, X), (9, V.i L), (29, S), (30, .bool true), (31, V.i i), (32, .ptr 3 1 0 0), (33, V.i r)] [B, K, C, D, Mo]) (by simp -dsimp [h, w4, At, hMo, hS, vBools, hLo]) ?_
      try clear h
      rintro ⟨sl, hp, bs⟩ ⟨rfl, h⟩
      simp only [sls_cons, sls_one, sls_nil] at h
      refine vc_cut (At [(2, .ptr 0 1 0 0), (6, A), (8, X), (9, V.i L), (29, S), (30, .bool true), (31, V.i i), (32, .ptr 3 1 0 0), (33, V.i r), (38, .bool true)] [B, K, C, D, Mo]) (by simp -dsimp [h, At]) ?_
      try clear h
      rintro ⟨sl, hp, bs⟩ ⟨rfl, h⟩
      simp only [sls_cons, sls_one, sls_nil] at h
      refine vc_cut (At [(2, .ptr 0 1 0 0), (6, A), (8, X), (9, V.i L), (29, S), (30, .bool true), (31, V.i i), (32, .ptr 3 1 0 0), (33, V.i r), (38, .bool (decide (c.xs.map (vL vs) = row)))] [B, K, C, D, Mo]) ?_ ?_
      · refine vc_cut (At [(2, .ptr 0 1 0 0), (6, A), (8, X), (9, V.i L), (29, S), (30, .bool true), (31, V.i i), (32, .ptr 3 1 0 0), (33, V.i r), (38, .bool true), (39, V.i 0)] [B, K, C, D, Mo]) (by simp -dsimp [h, At]) ?_
        try clear h
        rintro ⟨sl, hp, bs⟩ ⟨rfl, h⟩
        simp only [sls_cons, sls_one, sls_nil] at h
        refine vc_block_of (vc_upto 5 (by simp) c.xs.length (fun k st => ∃ b : Bool, (b = true ↔ PreR c.xs row vs k) ∧ At [(2, .ptr 0 1 0 0), (6, A), (8, X), (9, V.i L), (29, S), (30, .bool true), (31, V.i i), (32, .ptr 3 1 0 0), (33, V.i r), (38, .bool b), (39, V.i k)] [B, K, C, D, Mo] st) ⟨true, ⟨fun _ j x hj => by omega, fun _ => rfl⟩, rfl, by simpa using h⟩ ?_)
        clear h
        rintro k ⟨sl, hp1, bs⟩ hk ⟨b, hb, rfl, h⟩
        simp only [sls_cons, sls_one] at h
        unfold hallmarklaw6_OrderBack.b6
        by_cases hkl : k < c.xs.length
        · have hkl' : (k : Int) < c.xs.length := by omega
          have hwk : IntKind.i64.wrap ((k : Int) + 1) = ((k + 1 : Nat) : Int) := by rw [wrap64] <;> omega
          obtain ⟨x, hxx⟩ : ∃ x, x = c.xs[k] := ⟨_, rfl⟩
          obtain ⟨x1, x2⟩ := t1 x (by rw [hxx]; exact List.getElem_mem hkl)
          obtain ⟨p, hp'⟩ := Int.eq_ofNat_of_zero_le x1
          have p1 : p < vs.length := by omega
          have p2 : (p : Int) < vs.length := by omega
          have hkr : k < row.length := by omega
          have hkr' : (k : Int) < row.length := by omega
          have ev : vL vs x = vs[p] := by simp [vL, hp', List.getD, p1]
          have hxs? : c.xs[k]? = some x := by rw [List.getElem?_eq_getElem hkl, hxx]
          rw [hp'] at hxx
          cases b
          · have hno : ¬ PreR c.xs row vs (k + 1) := fun hall => by
              have := hb.2 fun j x hj hx => hall j x (by omega) hx
              cases this
            simp -dsimp [h, hD, hcl, hkl', vInts, vIntss, vTerms, At, hwk, hkl, hBr, hK, hC, hAi, hXi, hSi, hMr]
            exact hno
          · have hpre := hb.1 rfl
            by_cases hev : vs[p] = row[k]
            · have hyes : PreR c.xs row vs (k + 1) := fun j y hj hy => by
                by_cases hje : j = k
                · subst hje
                  rw [hxs?] at hy
                  rw [← Option.some.inj hy, ev, hev, List.getElem?_eq_getElem hkr]
                · exact hpre j y (by omega) hy
              simp -dsimp [h, hD, hcl, hkl', hkl, vInts, vIntss, vTerms, hX, ← hxx, p1, p2, hrl, hrl', ← hrow, hkr, hkr', hev, At, hwk, hBr, hK, hC, hAi, hSi, hMr]
              exact hyes
            · have hno : ¬ PreR c.xs row vs (k + 1) := fun hall => hev (by
                have := hall k x (by omega) hxs?
                rw [List.getElem?_eq_getElem hkr, ev] at this
                exact (Option.some.inj this).symm)
              simp -dsimp [h, hD, hcl, hkl', hkl, vInts, vIntss, vTerms, hX, ← hxx, p1, p2, hrl, hrl', ← hrow, hkr, hkr', hev, At, hwk, hBr, hK, hC, hAi, hSi, hMr]
              exact hno
        · have hkl' : ¬ (k : Int) < c.xs.length := by omega
          have hbd : b = decide (c.xs.map (vL vs) = row) := by
            have : (b = true) ↔ c.xs.map (vL vs) = row := by
              rw [hb]
              constructor
              · intro hall
                refine List.ext_getElem? fun j => ?_
                rw [List.getElem?_map]
                by_cases hj : j < c.xs.length
                · rw [hall j _ (by omega) (List.getElem?_eq_getElem hj), List.getElem?_eq_getElem hj]; rfl
                · rw [List.getElem?_eq_none (by omega), List.getElem?_eq_none (by omega)]; rfl
              · intro hm j x hj hx
                rw [← hm, List.getElem?_map, hx]; rfl
            cases b
            · exact (decide_eq_false fun e => by have := this.2 e; cases this).symm
            · exact (decide_eq_true (this.1 rfl)).symm
          simp -dsimp [h, hD, hcl, hkl', vInts, vIntss, vTerms, At, hbd]
          done
      try clear h
      rintro ⟨sl, hp, bs⟩ ⟨rfl, h⟩
      simp only [sls_cons, sls_one, sls_nil] at h
      simp -dsimp [h, hS, vBools, w5, heo, heo', hog, At]
      done
    try clear h
    rintro ⟨sl, hp, bs⟩ ⟨rfl, h⟩
    simp only [sls_cons, sls_one, sls_nil] at h
    simp -dsimp [h, At, hwr, hrl, hBr, hK, hC, hAi, hXi, hSi, hDr]
    omega
  · have hrl' : ¬ (r : Int) < c.rows.length := by omega
    have e : (r : Int) = w3 m i := by omega
    simp -dsimp [h, hD, hcl, hrl', vInts, vIntss, vTerms]
    refine hQ _ ?_
    simp -dsimp [h, At, e, hD, hcl, vInts, vIntss, vTerms]
end
end Go.Abs.G
